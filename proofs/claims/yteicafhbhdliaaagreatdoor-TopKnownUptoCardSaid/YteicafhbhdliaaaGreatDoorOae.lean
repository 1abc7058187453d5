/- Part 5 of the proof: Vcj Tm Ty Fa. -/
import Derived.Test.YteicafhbhdliaaaGreatDoorOad
import Derived.KernelRfl
import Derived.Test.YteicafhbhdliaaaGreatDoorProg
import Derived.Lib.LaidTab
import Derived.Lib.SmallJoins
import Derived.Lib.ItoaNum
set_option linter.unusedVariables false
namespace Go.Vc
open Go Go.RowKit
theorem ar.pr {C : Cx} {η : Nat -> AO} {f : FuncId} {args args' : List SV} {r : Res} (h : PC C f (fun _ => .no) args' r) (hk : SV.keysL args' = []) (hs : (args.all mP || r.scalar) = true) : ar C η f args args' r := by
 refine ar.pure args' h (LEL.refl _) hk ?_;cases e : r.scalar with
 | true => exact .inl rfl
 | false =>
  rw [e, Bool.or_false] at hs;exact .inr fun x hx => List.all_eq_true.1 hs x hx
theorem ar.le {C : Cx} {η : Nat -> AO} {f : FuncId} {args vargs args' : List SV} {r : Res} (h : PC C f (fun _ => .no) args' r) (hle : LEL vargs args') (hk : SV.keysL args' = []) (hs : (args.all mP || r.scalar) = true) : ar C η f args vargs r := by
 refine ar.pure args' h hle hk ?_;cases e : r.scalar with
 | true => exact .inl rfl
 | false =>
  rw [e, Bool.or_false] at hs;exact .inr fun x hx => List.all_eq_true.1 hs x hx
theorem LEP.of {x y : PV} (h : x = y) : LEP x y := h ▸ LEP.refl x
theorem LEL.cons {x y : SV} {xs ys : List SV} (h : LE x y) (h' : LEL xs ys) : LEL (x :: xs) (y :: ys) := ⟨h, h'⟩
theorem LEL.nil : LEL [] [] := trivial
theorem ry {n : Int} (h0 : -9223372036854775808 <= n) (h1 : n <= 9223372036854775807) : IntKind.i64.wrap n = n := by
 simp only [IntKind.wrap, IntKind.bits, IntKind.signed];simp;omega
theorem aq {a : Int} {n : Nat} (h : a = n) (hn : n <= 9223372036854775807) : IntKind.i64.wrap a = n := by
 rw [h];exact ry (by omega) (by omega)
theorem vL (a b : Int) : IntKind.i64.wrap (IntKind.i64.wrap a + IntKind.i64.wrap b) = IntKind.i64.wrap (a + b) := by
 simp only [IntKind.wrap, IntKind.bits, IntKind.signed];simp;omega
theorem k7 {own : Nat -> Bool} {P : List Nat} {ops : Array Oper} {Q : Prop} (h : pT own P ops = true) (q : Q) : uZ own P ops /\ Q := ⟨⟨h⟩, q⟩
theorem aQ {C : Cx} {own : Nat -> Bool} {P : List Nat} {ops : Array Oper} {x y : Tr} {K : S -> Prop} {s : S} (h1 : ej C own P ops x K s) (h2 : ej C own P ops y K s) : ej C own P ops x K s /\ ej C own P ops y K s := ⟨h1, h2⟩
theorem rz {own : Nat -> Bool} {P : List Nat} {ops : Array Oper} {b : List Nat} {t : Tr} {Q : Prop} (h : qY own P ops b t = true) (q : Q) : zQ own P ops b t /\ Q := ⟨⟨h⟩, q⟩
def trT : List (Nat × List Nat × Tr) -> Nat -> Option (List Nat × Tr)
 | [], _ => none
 | (k, l) :: r, i => cond (Nat.beq i k) (some l) (trT r i)
def psT : List (Nat × List Nat) -> Nat -> List Nat
 | [], _ => []
 | (k, l) :: r, i => cond (Nat.beq i k) l (psT r i)
def kpT : List (Nat × List Nat × List Nat) -> Nat -> Option (List Nat × List Nat)
 | [], _ => none
 | (k, l) :: r, i => cond (Nat.beq i k) (some l) (kpT r i)
abbrev Rd (n : Nat) := { i : Nat // i <= n }
def Rd.zero (n : Nat) : Rd n := ⟨0, Nat.zero_le _⟩
def GeL (s : S) : List (Nat × SV) -> Prop
 | [] => True
 | (t, x) :: r => (s.ρ t).force fun y => LE y x /\ GeL s r
def GeO (s : S) : List (Nat × AO) -> Prop
 | [] => True
 | (t, x) :: r => (s.η t).force fun y => OLE y x /\ GeO s r
theorem GeL.get {s : S} : ∀ {l : List (Nat × SV)}, GeL s l -> ∀ t x, (t, x) ∈ l -> LE (s.ρ t) x
 | (k, y) :: r, h, t, x, hm => by
  rw [GeL, SV.force_eq] at h;rcases List.mem_cons.1 hm with e | hm
  ·cases e; exact h.1
  ·exact GeL.get h.2 t x hm
theorem GeO.get {s : S} : ∀ {l : List (Nat × AO)}, GeO s l -> ∀ t x, (t, x) ∈ l -> OLE (s.η t) x
 | (k, y) :: r, h, t, x, hm => by
  rw [GeO, AO.force_eq] at h;rcases List.mem_cons.1 hm with e | hm
  ·cases e; exact h.1
  ·exact GeO.get h.2 t x hm
theorem Ge.of {s : S} {l : List (Nat × SV)} {o : List (Nat × AO)} (hk : okS l o = true) (hl : GeL s l) (ho : GeO s o) : Ge s (S.of l o) := by
 simp only [okS, Bool.and_eq_true, List.all_eq_true] at hk;refine Ge0.ge ⟨fun t => ?_, fun κ => ?_, ⟨fun t κ h => ?_, fun t κ h => ?_⟩⟩
 ·show LE (s.ρ t) (look l t);rcases f8 (l := l) (t := t) with e | e
  ·rw [e]; intro _ _ _ _ _; trivial
  ·exact hl.get _ _ e
 ·show OLE (s.η κ) (am o κ);rcases dP (l := o) (t := κ) with e | e
  ·rw [e]; exact .inl rfl
  ·exact ho.get _ _ e
 ·change κ ∈ (look l t).keys at h
  rcases f8 (l := l) (t := t) with e | e
  ·rw [e] at h; cases h
  ·exact hk.1 _ e κ h
 ·change κ ∈ (am o t).keys at h
  rcases dP (l := o) (t := t) with e | e
  ·rw [e] at h; cases h
  ·exact hk.2 _ e κ h
def gn : List (Nat × Nat) -> Nat -> Nat
 | [], k => k
 | (a, b) :: r, k => cond (Nat.beq k a) b (gn r k)
def yg (g : Nat -> Nat) (s : S) : List (Nat × SV) -> Prop
 | [] => True
 | (t, x) :: r => (s.ρ t).force fun y => LE y (x.ren g) /\ yg g s r
def yh (g : Nat -> Nat) (s : S) : List (Nat × AO) -> Prop
 | [] => True
 | (t, x) :: r => (s.η (g t)).force fun y => OLE y (x.ren g) /\ yh g s r
theorem yg.get {g : Nat -> Nat} {s : S} : ∀ {l : List (Nat × SV)}, yg g s l -> ∀ t x, (t, x) ∈ l -> LE (s.ρ t) (x.ren g)
 | (k, y) :: r, h, t, x, hm => by
  rw [yg, SV.force_eq] at h;rcases List.mem_cons.1 hm with e | hm
  ·cases e; exact h.1
  ·exact yg.get h.2 t x hm
theorem yh.get {g : Nat -> Nat} {s : S} : ∀ {l : List (Nat × AO)}, yh g s l -> ∀ t x, (t, x) ∈ l -> OLE (s.η (g t)) (x.ren g)
 | (k, y) :: r, h, t, x, hm => by
  rw [yh, AO.force_eq] at h;rcases List.mem_cons.1 hm with e | hm
  ·cases e; exact h.1
  ·exact yh.get h.2 t x hm
def okN (G : List (Nat × Nat)) (o : List (Nat × AO)) : Bool := (G.all fun z => Nat.blt z.1 2000) && o.all fun y => o.all fun z => Nat.beq y.1 z.1 || !Nat.beq (gn G y.1) (gn G z.1)
theorem FJ {G : List (Nat × Nat)} {κ : Nat} (h : (G.all fun z => Nat.blt z.1 2000) = true) (hκ : 2000 <= κ) : gn G κ = κ := by
 induction G with
 | nil => rfl
 | cons z G ih =>
  obtain ⟨a, b⟩ := z;rw [List.all_cons, Bool.and_eq_true] at h;have h1 : a < 2000 := by have := h.1; rw [Nat.blt_eq] at this; exact this
  show cond (Nat.beq κ a) b (gn G κ) = κ;rw [ai, if_neg (by omega), ih h.2]
theorem Ge.ren (G : List (Nat × Nat)) {s : S} {l : List (Nat × SV)} {o : List (Nat × AO)} (hk : okS l o = true) (hn : okN G o = true) (hl : yg (gn G) s l) (ho : yh (gn G) s o) : Ge s (S.of l o) := by
 simp only [okS, Bool.and_eq_true, List.all_eq_true] at hk;rw [okN, Bool.and_eq_true] at hn;refine ⟨gn G, fun t => ?_, fun κ => ?_, fun κ κ' h1 h2 e => ?_, fun κ hκ => FJ hn.1 hκ, ⟨fun t κ h => ?_, fun t κ h => ?_⟩⟩
 ·show LE (s.ρ t) ((look l t).ren (gn G));rcases f8 (l := l) (t := t) with e | e
  ·rw [e]; intro _ _ _ _ _; trivial
  ·exact hl.get _ _ e
 ·show OLE (s.η (gn G κ)) ((am o κ).ren (gn G));rcases dP (l := o) (t := κ) with e | e
  ·rw [e]; exact .inl rfl
  ·exact ho.get _ _ e
 ·have hin : ∀ κ, (am o κ).mine = true -> (κ, am o κ) ∈ o := fun κ h => by
   rcases dP (l := o) (t := κ) with e | e
   ·rw [e] at h; cases h
   ·exact e
  have a := hin κ h1;have b := hin κ' h2;have := hn.2;rw [List.all_eq_true] at this;have := this _ a;rw [List.all_eq_true] at this;have := this _ b;rw [Bool.or_eq_true] at this;rcases this with h | h
  ·exact Nat.eq_of_beq_eq_true h
  ·have h : (!Nat.beq (gn G κ) (gn G κ')) = true := h;rw [e] at h;simp at h
 ·change κ ∈ (look l t).keys at h
  rcases f8 (l := l) (t := t) with e | e
  ·rw [e] at h; cases h
  ·exact hk.1 _ e κ h
 ·change κ ∈ (am o t).keys at h
  rcases dP (l := o) (t := t) with e | e
  ·rw [e] at h; cases h
  ·exact hk.2 _ e κ h
theorem OLE.of {a b : AO} (h : a = b) : OLE a b := .inr (.inl h)
theorem goL {P Q : Prop} (h : Q) (e : Q -> P := by (intro h; (repeat (conv => whnf); first|refine k7 (by kernel_rfl) ?_|refine rz (by kernel_rfl) ?_|refine ⟨rfl,?_⟩|refine And.intro (by first|decide|exact trivial|exact ⟨rfl,trivial⟩|exact Nat.le_of_ble_eq_true rfl|exact ⟨_,rfl,rfl⟩|exact ⟨rfl,rfl,trivial⟩|exact ⟨rfl,rfl,rfl,trivial⟩|exact ⟨rfl,rfl,rfl,rfl,trivial⟩|exact ⟨rfl,rfl,rfl,rfl,rfl,trivial⟩|exact ⟨rfl,rfl,rfl,rfl,rfl,rfl,trivial⟩) ?_); (conv => whnf); exact h)) : P := e h
theorem goM {P Q : Prop} (h : Q) (e : Q -> P := by (intro h; (repeat (conv => whnf); first|refine k7 (by kernel_rfl) ?_|refine rz (by kernel_rfl) ?_|refine ⟨rfl,?_⟩|refine And.intro (by first|decide|exact trivial|exact Nat.le_of_ble_eq_true rfl|exact ⟨_,rfl,rfl⟩|exact ⟨rfl,trivial⟩|exact ⟨rfl,rfl,trivial⟩) ?_); (conv => whnf); exact h)) : P := e h
theorem goS {P Q : Prop} (h : Q) (e : Q -> P := by (intro h; (repeat (conv => whnf); first|refine k7 (by kernel_rfl) ?_|refine ⟨rfl,?_⟩|refine And.intro (by first|decide|exact trivial|exact ⟨_,rfl,rfl⟩|exact ⟨rfl,trivial⟩|exact ⟨rfl,rfl,trivial⟩) ?_); (conv => whnf); exact h)) : P := e h
theorem Ge.go {s : S} {l : List (Nat × SV)} {o : List (Nat × AO)} (hk : okS l o = true := by rfl) (hl : GeL s l := by ((repeat (conv => whnf); refine ⟨LE.of rfl, ?_⟩); trivial)) (ho : GeO s o := by ((repeat (conv => whnf); refine ⟨OLE.of rfl, ?_⟩); trivial)) : Ge s (S.of l o) := Ge.of hk hl ho
theorem ac.go {C : Cx} {s : S} {f : FuncId} {args args0 : List SV} {d : Nat} {I O : List (Nat × AO)} {x : SV} {Q : S -> Prop} (g : Nat -> Nat) (h : PM C f I args0 O x) (q : Q (dD s g I O d x)) (hle : LEL args (SV.renL g args0) := by (repeat (first|exact trivial|refine And.intro (LE.of rfl) ?_))) (hI : GeI s g I := by ((repeat (conv => whnf); refine ⟨.inr (.inl rfl), ?_⟩); exact trivial)) (hc : Ay s g I O = true := by rfl) : ∃ s', ac C s f args d s' /\ Q s' := ⟨_, ac.pr g h hle hI hc, q⟩
theorem cC {C : Cx} {η : Nat -> AO} {f : FuncId} {args args' : List SV} {r : Res} {K : Res -> Prop} (h : PC C f (fun _ => .no) args' r) (q : K r) (hk : SV.keysL args' = [] := by rfl) (hs : (args.all mP || r.scalar) = true := by rfl) : ∃ r, ar C η f args args' r /\ K r := ⟨r, ar.pr h hk hs, q⟩
theorem rR {A B C D : (Nat -> Nat) -> Prop} (g : Nat -> Nat) (a : A g := by exact ⟨rfl, LE.of rfl⟩) (b : B g := by ((repeat (conv => whnf); refine ⟨.inr (.inl rfl), ?_⟩); exact trivial)) (c : C g := by rfl) (d : D g := by rfl) : ∃ g, A g /\ B g /\ C g /\ D g := ⟨g, a, b, c, d⟩
theorem sS {A B : Prop} (q : B) (a : A := by first|exact uZ.mk (by kernel_rfl)|exact zQ.mk (by kernel_rfl)|exact rfl|decide|exact trivial|exact ⟨rfl,trivial⟩|exact Nat.le_of_ble_eq_true rfl|exact ⟨_,rfl,rfl⟩|exact ⟨rfl,rfl,trivial⟩|exact ⟨rfl,rfl,rfl,trivial⟩|exact ⟨rfl,rfl,rfl,rfl,trivial⟩|exact ⟨rfl,rfl,rfl,rfl,rfl,trivial⟩) : A /\ B := ⟨a, q⟩
def oO : List Nat -> Nat -> Bool
 | [], _ => false
 | a :: l, q => cond (Nat.beq q a) true (oO l q)
def qQ : List Nat -> Tr -> Tr
 | [], t => t
 | a :: l, t => .one a (qQ l t)
end Go.Vc
abbrev Bs := List UInt8
inductive Tm where
 | mk (kind : Int) (name : Bs) (kids : List Tm)
namespace Tm
def kind : Tm -> Int | mk k _ _ => k
def name : Tm -> Bs | mk _ n _ => n
def kids : Tm -> List Tm | mk _ _ l => l
mutual
def size : Tm -> Nat | mk _ _ l => sizes l + 1
def sizes : List Tm -> Nat | [] => 0 | t :: ts => size t + sizes ts
end
mutual
def depth : Tm -> Nat | mk _ _ l => depths l + 1
def depths : List Tm -> Nat | [] => 0 | t :: ts => max (depth t) (depths ts)
end
mutual
def beq : Tm -> Tm -> Bool
 | mk k n l, mk k' n' l' => k == k' && (n == n' && vM l l')
def vM : List Tm -> List Tm -> Bool
 | [], [] => true
 | t :: ts, u :: us => beq t u && vM ts us
 | _, _ => false
end
mutual
theorem rA : ∀ t u, beq t u = true ↔ t = u
 | mk k n l, mk k' n' l' => by
  have := tf l l';simp [beq, this]
theorem tf : ∀ l l', vM l l' = true ↔ l = l'
 | [], [] => by simp [vM]
 | [], _ :: _ => by simp [vM]
 | _ :: _, [] => by simp [vM]
 | t :: ts, u :: us => by
  have h1 := rA t u;have h2 := tf ts us;simp [vM, h1, h2]
end
instance : DecidableEq Tm := fun t u =>
 if h : beq t u = true then .isTrue ((rA t u).1 h) else .isFalse (fun e => h ((rA t u).2 e))
theorem sizes_append (a b : List Tm) : sizes (a ++ b) = sizes a + sizes b := by
 induction a with
 | nil => simp [sizes]
 | cons t ts ih => simp [sizes, ih]; omega
theorem ind {P : Tm -> Prop} (h : ∀ k n l, (∀ t ∈ l, P t) -> P (mk k n l)) : ∀ t, P t := by
 intro t;refine Tm.rec (motive_1 := P) (motive_2 := fun l => ∀ t ∈ l, P t) (fun k n l ih => h k n l ih) ?_ ?_ t
 ·intro t ht; cases ht
 ·intro t ts h1 h2 u hu;cases hu with
  | head => exact h1
  | tail _ hm => exact h2 u hm
theorem size_mem {t : Tm} {l : List Tm} (h : t ∈ l) : size t <= sizes l := by
 induction l with
 | nil => cases h
 | cons a l ih =>
  simp only [sizes];cases h with
  | head => omega
  | tail _ hm => have := ih hm; omega
theorem size_pos (t : Tm) : 0 < size t := by cases t; simp [size]
theorem depth_mem {t : Tm} {l : List Tm} (h : t ∈ l) : depth t <= depths l := by
 induction l with
 | nil => cases h
 | cons a l ih =>
  simp only [depths];cases h with
  | head => omega
  | tail _ hm => have := ih hm; omega
end Tm
namespace Go.Sl
open Go Go.Vc Go.Proofs
def xd : TI := { k := 5, agg := false, sz := 1, bytes := 8, zero := .int .i64 0, flds := [], elem := 0, alen := 0 }
def FK : TI := { k := 5, agg := false, sz := 1, bytes := 1, zero := .int .u8 0, flds := [], elem := 0, alen := 0 }
def vN : TI := { k := 6, agg := false, sz := 1, bytes := 1, zero := .bool false, flds := [], elem := 0, alen := 0 }
def xe : TI := { k := 4, agg := false, sz := 1, bytes := 16, zero := .str [], flds := [], elem := 0, alen := 0 }
def rB : TI := { k := 2, agg := false, sz := 1, bytes := 24, zero := .nilS, flds := [], elem := 5, alen := 0 }
def DD : TI := { k := 2, agg := false, sz := 1, bytes := 24, zero := .nilS, flds := [], elem := 26, alen := 0 }
def FL : TI := { k := 2, agg := false, sz := 1, bytes := 24, zero := .nilS, flds := [], elem := 24, alen := 0 }
def mc : TI := { k := 1, agg := true, sz := 3, bytes := 48, zero := .agg [.int .i64 0, .str [], .nilS], flds := [(0, 1), (1, 1), (2, 1)], elem := 0, alen := 0 }
def FM : TI := { k := 2, agg := false, sz := 1, bytes := 24, zero := .nilS, flds := [], elem := 9, alen := 0 }
def FN : TI := { k := 1, agg := true, sz := 3, bytes := 32, zero := .agg [.str [], .int .i64 0, .bool false], flds := [(0, 1), (1, 1), (2, 1)], elem := 0, alen := 0 }
def DE : TI := { k := 3, agg := true, sz := 33, bytes := 352, zero := .agg (List.replicate 11 [PV.str [], .int .i64 0, .bool false]).flatten, flds := [], elem := 246, alen := 11 }
def FO : TI := { k := 7, agg := false, sz := 1, bytes := 8, zero := .exact (.map none), flds := [], elem := 4, alen := 0 }
def FP : TI := { k := 8, agg := false, sz := 1, bytes := 8, zero := .exact (.map none), flds := [], elem := 179, alen := 0 }
def G5 : TI := { k := 1, agg := true, sz := 2, bytes := 16, zero := .agg [.exact .nilFunc, .exact .nilFunc], flds := [(0, 1), (1, 1)], elem := 0, alen := 0 }
def DF : TI := { k := 1, agg := true, sz := 3, bytes := 40, zero := .agg [.nilS, .exact (.map none), .exact (.map none)], flds := [(0, 1), (1, 1), (2, 1)], elem := 0, alen := 0 }
def Az : TI := { k := 9, agg := false, sz := 1, bytes := 8, zero := .exact (.pointer none), flds := [], elem := 0, alen := 0 }
def G6 : TI := { k := 10, agg := false, sz := 1, bytes := 8, zero := .exact .nilFunc, flds := [], elem := 0, alen := 0 }
def IA : TI := { k := 0, agg := false, sz := 1, bytes := 8, zero := .exact .nilFunc, flds := [], elem := 0, alen := 0 }
def vO : TI := { k := 5, agg := false, sz := 1, bytes := 8, zero := .int .u64 0, flds := [], elem := 0, alen := 0 }
def G7 : TI := { k := 1, agg := true, sz := 6, bytes := 48, zero := .agg [.int .i64 0, .int .i64 0, .int .i64 0, .int .i64 0, .int .i64 0, .int .i64 0], flds := [(0, 1), (1, 1), (2, 1), (3, 1), (4, 1), (5, 1)], elem := 0, alen := 0 }
def FQ : TI := { k := 1, agg := true, sz := 15, bytes := 192, zero := .agg [.str [], .int .i64 0, .str [], .nilS, .nilS, .int .i64 0, .str [], .nilS, .int .i64 0, .int .i64 0, .int .i64 0, .int .i64 0, .int .i64 0, .int .i64 0, .int .i64 0], flds := [(0, 1), (1, 3), (4, 1), (5, 3), (8, 6), (14, 1)], elem := 0, alen := 0 }
def AA : TI := { k := 1, agg := true, sz := 14, bytes := 216, zero := .agg [.str [], .int .i64 0, .str [], .nilS, .int .i64 0, .str [], .nilS, .int .i64 0, .int .i64 0, .str [], .nilS, .int .i64 0, .str [], .nilS], flds := [(0, 1), (1, 3), (4, 3), (7, 1), (8, 3), (11, 3)], elem := 0, alen := 0 }
def DG : TI := { k := 1, agg := true, sz := 6, bytes := 72, zero := .agg [.int .i64 0, .int .i64 0, .int .i64 0, .int .i64 0, .str [], .nilS], flds := [(0, 1), (1, 1), (2, 1), (3, 3)], elem := 0, alen := 0 }
def DH : TI := { k := 1, agg := true, sz := 6, bytes := 72, zero := .agg [.int .i64 0, .int .i64 0, .int .i64 0, .int .i64 0, .str [], .nilS], flds := [(0, 1), (1, 1), (2, 1), (3, 3)], elem := 0, alen := 0 }
def G8 : TI := { k := 1, agg := true, sz := 11, bytes := 152, zero := .agg [.int .i64 0, .str [], .nilS, .int .i64 0, .str [], .nilS, .exact (.pointer none), .int .i64 0, .exact (.pointer none), .int .i64 0, .nilS], flds := [(0, 3), (3, 3), (6, 1), (7, 1), (8, 1), (9, 1), (10, 1)], elem := 0, alen := 0 }
def DI : TI := { k := 1, agg := true, sz := 19, bytes := 264, zero := .agg [.bool false, .bool false, .bool false, .str [], .int .i64 0, .str [], .nilS, .int .i64 0, .str [], .nilS, .int .i64 0, .str [], .nilS, .int .i64 0, .str [], .nilS, .int .i64 0, .str [], .nilS], flds := [(0, 1), (1, 1), (2, 1), (3, 1), (4, 3), (7, 3), (10, 3), (13, 3), (16, 3)], elem := 0, alen := 0 }
def AB : TI := { k := 1, agg := true, sz := 37, bytes := 552, zero := .agg [.bool false, .bool false, .bool false, .str [], .int .i64 0, .str [], .nilS, .int .i64 0, .str [], .nilS, .int .i64 0, .str [], .nilS, .int .i64 0, .str [], .nilS, .int .i64 0, .str [], .nilS, .str [], .int .i64 0, .str [], .nilS, .int .i64 0, .str [], .nilS, .int .i64 0, .int .i64 0, .str [], .nilS, .int .i64 0, .str [], .nilS, .int .i64 0, .str [], .nilS, .nilS], flds := [(0, 19), (19, 14), (33, 3), (36, 1)], elem := 0, alen := 0 }
def AC : TI := { k := 1, agg := true, sz := 7, bytes := 112, zero := .agg [.str [], .str [], .nilS, .int .i64 0, .str [], .nilS, .int .i64 0], flds := [(0, 1), (1, 1), (2, 1), (3, 3), (6, 1)], elem := 0, alen := 0 }
def DJ : TI := { k := 1, agg := true, sz := 32, bytes := 456, zero := .agg [.str [], .str [], .nilS, .int .i64 0, .str [], .nilS, .int .i64 0, .int .i64 0, .str [], .nilS, .int .i64 0, .str [], .nilS, .int .i64 0, .str [], .nilS, .str [], .int .i64 0, .str [], .nilS, .nilS, .int .i64 0, .str [], .nilS, .int .i64 0, .int .i64 0, .int .i64 0, .int .i64 0, .int .i64 0, .int .i64 0, .int .i64 0, .int .i64 0], flds := [(0, 7), (7, 3), (10, 3), (13, 3), (16, 15), (31, 1)], elem := 0, alen := 0 }
def DK : TI := { k := 1, agg := true, sz := 4, bytes := 72, zero := .agg [.int .i64 0, .str [], .nilS, .nilS], flds := [(0, 3), (3, 1)], elem := 0, alen := 0 }
def DL : TI := { k := 1, agg := true, sz := 6, bytes := 104, zero := .agg [.str [], .str [], .nilS, .int .i64 0, .str [], .nilS], flds := [(0, 1), (1, 1), (2, 1), (3, 3)], elem := 0, alen := 0 }
def FR : TI := { k := 1, agg := true, sz := 2, bytes := 32, zero := .agg [.str [], .str []], flds := [(0, 1), (1, 1)], elem := 0, alen := 0 }
def FS : TI := { k := 1, agg := true, sz := 10, bytes := 176, zero := .agg [.exact (.pointer none), .nilS, .nilS, .nilS, .nilS, .nilS, .nilS, .bool false, .int .i64 0, .int .i64 0], flds := [(0, 1), (1, 1), (2, 1), (3, 1), (4, 1), (5, 1), (6, 1), (7, 1), (8, 1), (9, 1)], elem := 0, alen := 0 }
def FT : TI := { k := 1, agg := true, sz := 1, bytes := 24, zero := .agg [.nilS], flds := [(0, 1)], elem := 0, alen := 0 }
def DM : TI := { k := 1, agg := true, sz := 2, bytes := 16, zero := .agg [.int .i64 0, .exact (.map none)], flds := [(0, 1), (1, 1)], elem := 0, alen := 0 }
def FU : TI := { k := 1, agg := true, sz := 18, bytes := 288, zero := .agg [.int .i64 0, .str [], .nilS, .int .i64 0, .str [], .nilS, .int .i64 0, .str [], .nilS, .int .i64 0, .str [], .nilS, .int .i64 0, .str [], .nilS, .int .i64 0, .str [], .nilS], flds := [(0, 3), (3, 3), (6, 3), (9, 3), (12, 3), (15, 3)], elem := 0, alen := 0 }
def DN : TI := { k := 1, agg := true, sz := 3, bytes := 48, zero := .agg [.int .i64 0, .str [], .nilS], flds := [(0, 3)], elem := 0, alen := 0 }
def DO : TI := { k := 2, agg := false, sz := 1, bytes := 24, zero := .nilS, flds := [], elem := 31, alen := 0 }
def AD : TI := { k := 2, agg := false, sz := 1, bytes := 24, zero := .nilS, flds := [], elem := 113, alen := 0 }
def DP : TI := { k := 2, agg := false, sz := 1, bytes := 24, zero := .nilS, flds := [], elem := 227, alen := 0 }
def vP : TI := { k := 2, agg := false, sz := 1, bytes := 24, zero := .nilS, flds := [], elem := 3, alen := 0 }
def DQ : TI := { k := 2, agg := false, sz := 1, bytes := 24, zero := .nilS, flds := [], elem := 4, alen := 0 }
def vQ : TI := { k := 2, agg := false, sz := 1, bytes := 24, zero := .nilS, flds := [], elem := 37, alen := 0 }
def FV : TI := { k := 2, agg := false, sz := 1, bytes := 24, zero := .nilS, flds := [], elem := 23, alen := 0 }
def DR : TI := { k := 2, agg := false, sz := 1, bytes := 24, zero := .nilS, flds := [], elem := 119, alen := 0 }
def DS : TI := { k := 2, agg := false, sz := 1, bytes := 24, zero := .nilS, flds := [], elem := 204, alen := 0 }
def FW : TI := { k := 9, agg := false, sz := 1, bytes := 8, zero := .exact (.pointer none), flds := [], elem := 0, alen := 0 }
def yi : TI := { k := 9, agg := false, sz := 1, bytes := 8, zero := .exact (.pointer none), flds := [], elem := 0, alen := 0 }
def AE : TI := { k := 9, agg := false, sz := 1, bytes := 8, zero := .exact (.pointer none), flds := [], elem := 0, alen := 0 }
def DT : TI := { k := 9, agg := false, sz := 1, bytes := 8, zero := .exact (.pointer none), flds := [], elem := 0, alen := 0 }
def AF : TI := { k := 9, agg := false, sz := 1, bytes := 8, zero := .exact (.pointer none), flds := [], elem := 0, alen := 0 }
def AG : TI := { k := 9, agg := false, sz := 1, bytes := 8, zero := .exact (.pointer none), flds := [], elem := 0, alen := 0 }
def DU : TI := { k := 9, agg := false, sz := 1, bytes := 8, zero := .exact (.pointer none), flds := [], elem := 0, alen := 0 }
def yj : TI := { k := 9, agg := false, sz := 1, bytes := 8, zero := .exact (.pointer none), flds := [], elem := 0, alen := 0 }
def AH : TI := { k := 10, agg := false, sz := 1, bytes := 8, zero := .exact .nilFunc, flds := [], elem := 0, alen := 0 }
def DV : TI := { k := 10, agg := false, sz := 1, bytes := 8, zero := .exact .nilFunc, flds := [], elem := 0, alen := 0 }
def AI : TI := { k := 10, agg := false, sz := 1, bytes := 8, zero := .exact .nilFunc, flds := [], elem := 0, alen := 0 }
def AJ : TI := { k := 10, agg := false, sz := 1, bytes := 8, zero := .exact .nilFunc, flds := [], elem := 0, alen := 0 }
def AK : TI := { k := 11, agg := false, sz := 1, bytes := 16, zero := .exact .nilIface, flds := [], elem := 0, alen := 0 }
def FX : TI := { k := 7, agg := false, sz := 1, bytes := 8, zero := .exact (.map none), flds := [], elem := 3, alen := 0 }
def AL : TI := { k := 5, agg := false, sz := 1, bytes := 4, zero := .int .i32 0, flds := [], elem := 0, alen := 0 }
def IB : TI := { k := 0, agg := false, sz := 1, bytes := 16, zero := .exact (.complex .f64 0 0), flds := [], elem := 0, alen := 0 }
def G9 : TI := { k := 3, agg := true, sz := 4, bytes := 64, zero := .agg [.exact (.complex .f64 0 0), .exact (.complex .f64 0 0), .exact (.complex .f64 0 0), .exact (.complex .f64 0 0)], flds := [], elem := 72, alen := 4 }
noncomputable def T (t : Nat) : Option TI :=
 cond (Nat.beq t 3) (some xd) <|
 cond (Nat.beq t 4) (some vN) <|
 cond (Nat.beq t 5) (some FK) <|
 cond (Nat.beq t 9) (some xe) <|
 cond (Nat.beq t 24) (some DD) <|
 cond (Nat.beq t 26) (some mc) <|
 cond (Nat.beq t 33) (some xd) <|
 cond (Nat.beq t 183) (some FL) <|
 cond (Nat.beq t 71) (some rB) <|
 cond (Nat.beq t 23) (some FM) <|
 cond (Nat.beq t 246) (some FN) <|
 cond (Nat.beq t 247) (some DE) <|
 cond (Nat.beq t 174) (some FO) <|
 cond (Nat.beq t 172) (some FP) <|
 cond (Nat.beq t 179) (some G5) <|
 cond (Nat.beq t 176) (some DF) <|
 cond (Nat.beq t 120) (some Az) <|
 cond (Nat.beq t 177) (some IA) <|
 cond (Nat.beq t 189) (some vO) <|
 cond (Nat.beq t 59) (some G6) <|
 cond (Nat.beq t 29) (some G7) <|
 cond (Nat.beq t 31) (some FQ) <|
 cond (Nat.beq t 41) (some AA) <|
 cond (Nat.beq t 66) (some DG) <|
 cond (Nat.beq t 119) (some DH) <|
 cond (Nat.beq t 79) (some G8) <|
 cond (Nat.beq t 82) (some DI) <|
 cond (Nat.beq t 85) (some AB) <|
 cond (Nat.beq t 92) (some AC) <|
 cond (Nat.beq t 94) (some DJ) <|
 cond (Nat.beq t 101) (some DK) <|
 cond (Nat.beq t 113) (some DL) <|
 cond (Nat.beq t 227) (some FR) <|
 cond (Nat.beq t 117) (some FS) <|
 cond (Nat.beq t 135) (some FT) <|
 cond (Nat.beq t 197) (some DM) <|
 cond (Nat.beq t 243) (some FU) <|
 cond (Nat.beq t 203) (some DN) <|
 cond (Nat.beq t 36) (some DO) <|
 cond (Nat.beq t 47) (some AD) <|
 cond (Nat.beq t 83) (some DP) <|
 cond (Nat.beq t 99) (some vP) <|
 cond (Nat.beq t 114) (some DQ) <|
 cond (Nat.beq t 115) (some vQ) <|
 cond (Nat.beq t 54) (some FV) <|
 cond (Nat.beq t 50) (some DR) <|
 cond (Nat.beq t 206) (some DS) <|
 cond (Nat.beq t 32) (some FW) <|
 cond (Nat.beq t 37) (some yi) <|
 cond (Nat.beq t 51) (some AE) <|
 cond (Nat.beq t 74) (some DT) <|
 cond (Nat.beq t 77) (some AF) <|
 cond (Nat.beq t 142) (some AG) <|
 cond (Nat.beq t 190) (some DU) <|
 cond (Nat.beq t 207) (some yj) <|
 cond (Nat.beq t 204) (some AH) <|
 cond (Nat.beq t 188) (some DV) <|
 cond (Nat.beq t 138) (some AI) <|
 cond (Nat.beq t 123) (some AJ) <|
 cond (Nat.beq t 168) (some AK) <|
 cond (Nat.beq t 195) (some FX) <|
 cond (Nat.beq t 21) (some AL) <|
 cond (Nat.beq t 72) (some IB) <|
 cond (Nat.beq t 132) (some G9) <|
 none
theorem ag {t n : Nat} {ti x : TI} {r : Option TI} (h : (if t = n then some x else r) = some ti) : (t = n /\ some x = some ti) \/ r = some ti := by
 split at h
 ·exact .inl ⟨by assumption, h⟩
 ·exact .inr h
theorem DW (t : Nat) (ti : TI) (h : T t = some ti) : az Tryz.prog t ti := by
 simp only [T, ai] at h;rcases ag h with ⟨e, h⟩ | h; · { subst e; cases h; exact az.of (z := .int .i64 0) (d := .int .i64) (by kernel_rfl) Tryz.underlying3 rfl rfl ⟨rfl, rfl, rfl⟩ (fun _ => rfl) (by intro h; cases h) }
 rcases ag h with ⟨e, h⟩ | h; · { subst e; cases h; exact az.of (z := .bool false) (d := .bool) (by kernel_rfl) Tryz.underlying4 rfl rfl ⟨rfl, rfl⟩ (fun _ => rfl) (by intro h; cases h) }
 rcases ag h with ⟨e, h⟩ | h; · { subst e; cases h; exact az.of (z := .int .u8 0) (d := .int .u8) (by kernel_rfl) Tryz.underlying5 rfl rfl ⟨rfl, rfl, rfl⟩ (fun _ => rfl) (by intro h; cases h) }
 rcases ag h with ⟨e, h⟩ | h; · { subst e; cases h; exact az.of (z := .string ⟨#[]⟩) (d := .string) (by kernel_rfl) Tryz.underlying9 rfl rfl ⟨rfl, rfl⟩ (fun _ => rfl) (by intro h; cases h) }
 rcases ag h with ⟨e, h⟩ | h; · { subst e; cases h; exact az.of (z := .slice none 0 0) (d := .slice 26) (by kernel_rfl) Tryz.underlying24 rfl rfl ⟨rfl, rfl, rfl⟩ (fun _ => rfl) (by intro h; cases h) }
 rcases ag h with ⟨e, h⟩ | h; · { subst e; cases h; exact az.of (z := .agg #[.int .i64 0, .string ⟨#[]⟩, .slice none 0 0]) (by kernel_rfl) Tryz.underlying26 rfl rfl ⟨rfl, rfl, by kernel_rfl, by kernel_rfl⟩ (by intro h; cases h) (fun _ => rfl) }
 rcases ag h with ⟨e, h⟩ | h; · { subst e; cases h; exact az.of (z := .int .i64 0) (d := .int .i64) (by kernel_rfl) Tryz.underlying33 rfl rfl ⟨rfl, rfl, rfl⟩ (fun _ => rfl) (by intro h; cases h) }
 rcases ag h with ⟨e, h⟩ | h; · { subst e; cases h; exact az.of (z := .slice none 0 0) (d := .slice 24) (by kernel_rfl) Tryz.underlying183 rfl rfl ⟨rfl, rfl, rfl⟩ (fun _ => rfl) (by intro h; cases h) }
 rcases ag h with ⟨e, h⟩ | h; · { subst e; cases h; exact az.of (z := .slice none 0 0) (d := .slice 5) (by kernel_rfl) Tryz.underlying71 rfl rfl ⟨rfl, rfl, rfl⟩ (fun _ => rfl) (by intro h; cases h) }
 rcases ag h with ⟨e, h⟩ | h; · { subst e; cases h; exact az.of (z := .slice none 0 0) (d := .slice 9) (by kernel_rfl) Tryz.underlying23 rfl rfl ⟨rfl, rfl, rfl⟩ (fun _ => rfl) (by intro h; cases h) }
 rcases ag h with ⟨e, h⟩ | h; · { subst e; cases h; exact az.of (z := .agg #[.string ⟨#[]⟩, .int .i64 0, .bool false]) (by kernel_rfl) Tryz.underlying246 rfl rfl ⟨rfl, rfl, by kernel_rfl, by kernel_rfl⟩ (by intro h; cases h) (fun _ => rfl) }
 rcases ag h with ⟨e, h⟩ | h; · { subst e; cases h; exact az.of (z := .agg (List.replicate 11 [Value.string ⟨#[]⟩, .int .i64 0, .bool false]).flatten.toArray) (d := .array 11 246) (by kernel_rfl) Tryz.underlying247 rfl rfl ⟨rfl, rfl, rfl, rfl⟩ (by intro h; cases h) (fun _ => rfl) }
 rcases ag h with ⟨e, h⟩ | h; · { subst e; cases h; exact az.of (z := .map none) (by kernel_rfl) Tryz.underlying174 rfl rfl ⟨rfl, rfl, .inl ⟨rfl, Tryz.underlying9⟩⟩ (fun _ => rfl) (by intro h; cases h) }
 rcases ag h with ⟨e, h⟩ | h; · { subst e; cases h; exact az.of (z := .map none) (by kernel_rfl) Tryz.underlying172 rfl rfl ⟨rfl, rfl, .inr ⟨rfl, Tryz.underlying3⟩⟩ (fun _ => rfl) (by intro h; cases h) }
 rcases ag h with ⟨e, h⟩ | h; · { subst e; cases h; exact az.of (z := .agg #[.nilFunc, .nilFunc]) (by kernel_rfl) Tryz.underlying179 rfl rfl ⟨rfl, rfl, by kernel_rfl, by kernel_rfl⟩ (by intro h; cases h) (fun _ => rfl) }
 rcases ag h with ⟨e, h⟩ | h; · { subst e; cases h; exact az.of (z := .agg #[.slice none 0 0, .map none, .map none]) (by kernel_rfl) Tryz.underlying176 rfl rfl ⟨rfl, rfl, by kernel_rfl, by kernel_rfl⟩ (by intro h; cases h) (fun _ => rfl) }
 rcases ag h with ⟨e, h⟩ | h; · { subst e; cases h; exact az.of (z := .pointer none) (by kernel_rfl) Tryz.underlying120 rfl rfl ⟨.inr rfl, rfl⟩ (fun _ => rfl) (by intro h; cases h) }
 rcases ag h with ⟨e, h⟩ | h; · { subst e; cases h; exact az.of (z := .nilFunc) (by kernel_rfl) Tryz.underlying177 rfl rfl ⟨.inl rfl, rfl⟩ (fun _ => rfl) (by intro h; cases h) }
 rcases ag h with ⟨e, h⟩ | h; · { subst e; cases h; exact az.of (z := .int .u64 0) (d := .int .u64) (by kernel_rfl) Tryz.underlying189 rfl rfl ⟨rfl, rfl, rfl⟩ (fun _ => rfl) (by intro h; cases h) }
 rcases ag h with ⟨e, h⟩ | h; · { subst e; cases h; exact az.of (z := .nilFunc) (by kernel_rfl) Tryz.underlying59 rfl rfl ⟨.inr rfl, rfl⟩ (fun _ => rfl) (by intro h; cases h) }
 rcases ag h with ⟨e, h⟩ | h; · { subst e; cases h; exact az.of (z := .agg #[.int .i64 0, .int .i64 0, .int .i64 0, .int .i64 0, .int .i64 0, .int .i64 0]) (by kernel_rfl) Tryz.underlying29 rfl rfl ⟨rfl, rfl, by kernel_rfl, by kernel_rfl⟩ (by intro h; cases h) (fun _ => rfl) }
 rcases ag h with ⟨e, h⟩ | h; · { subst e; cases h; exact az.of (z := .agg #[.string ⟨#[]⟩, .int .i64 0, .string ⟨#[]⟩, .slice none 0 0, .slice none 0 0, .int .i64 0, .string ⟨#[]⟩, .slice none 0 0, .int .i64 0, .int .i64 0, .int .i64 0, .int .i64 0, .int .i64 0, .int .i64 0, .int .i64 0]) (by kernel_rfl) Tryz.underlying31 rfl rfl ⟨rfl, rfl, by kernel_rfl, by kernel_rfl⟩ (by intro h; cases h) (fun _ => rfl) }
 rcases ag h with ⟨e, h⟩ | h; · { subst e; cases h; exact az.of (z := .agg #[.string ⟨#[]⟩, .int .i64 0, .string ⟨#[]⟩, .slice none 0 0, .int .i64 0, .string ⟨#[]⟩, .slice none 0 0, .int .i64 0, .int .i64 0, .string ⟨#[]⟩, .slice none 0 0, .int .i64 0, .string ⟨#[]⟩, .slice none 0 0]) (by kernel_rfl) Tryz.underlying41 rfl rfl ⟨rfl, rfl, by kernel_rfl, by kernel_rfl⟩ (by intro h; cases h) (fun _ => rfl) }
 rcases ag h with ⟨e, h⟩ | h; · { subst e; cases h; exact az.of (z := .agg #[.int .i64 0, .int .i64 0, .int .i64 0, .int .i64 0, .string ⟨#[]⟩, .slice none 0 0]) (by kernel_rfl) Tryz.underlying66 rfl rfl ⟨rfl, rfl, by kernel_rfl, by kernel_rfl⟩ (by intro h; cases h) (fun _ => rfl) }
 rcases ag h with ⟨e, h⟩ | h; · { subst e; cases h; exact az.of (z := .agg #[.int .i64 0, .int .i64 0, .int .i64 0, .int .i64 0, .string ⟨#[]⟩, .slice none 0 0]) (by kernel_rfl) Tryz.underlying119 rfl rfl ⟨rfl, rfl, by kernel_rfl, by kernel_rfl⟩ (by intro h; cases h) (fun _ => rfl) }
 rcases ag h with ⟨e, h⟩ | h; · { subst e; cases h; exact az.of (z := .agg #[.int .i64 0, .string ⟨#[]⟩, .slice none 0 0, .int .i64 0, .string ⟨#[]⟩, .slice none 0 0, .pointer none, .int .i64 0, .pointer none, .int .i64 0, .slice none 0 0]) (by kernel_rfl) Tryz.underlying79 rfl rfl ⟨rfl, rfl, by kernel_rfl, by kernel_rfl⟩ (by intro h; cases h) (fun _ => rfl) }
 rcases ag h with ⟨e, h⟩ | h; · { subst e; cases h; exact az.of (z := .agg #[.bool false, .bool false, .bool false, .string ⟨#[]⟩, .int .i64 0, .string ⟨#[]⟩, .slice none 0 0, .int .i64 0, .string ⟨#[]⟩, .slice none 0 0, .int .i64 0, .string ⟨#[]⟩, .slice none 0 0, .int .i64 0, .string ⟨#[]⟩, .slice none 0 0, .int .i64 0, .string ⟨#[]⟩, .slice none 0 0]) (by kernel_rfl) Tryz.underlying82 rfl rfl ⟨rfl, rfl, by kernel_rfl, by kernel_rfl⟩ (by intro h; cases h) (fun _ => rfl) }
 rcases ag h with ⟨e, h⟩ | h; · { subst e; cases h; exact az.of (z := .agg #[.bool false, .bool false, .bool false, .string ⟨#[]⟩, .int .i64 0, .string ⟨#[]⟩, .slice none 0 0, .int .i64 0, .string ⟨#[]⟩, .slice none 0 0, .int .i64 0, .string ⟨#[]⟩, .slice none 0 0, .int .i64 0, .string ⟨#[]⟩, .slice none 0 0, .int .i64 0, .string ⟨#[]⟩, .slice none 0 0, .string ⟨#[]⟩, .int .i64 0, .string ⟨#[]⟩, .slice none 0 0, .int .i64 0, .string ⟨#[]⟩, .slice none 0 0, .int .i64 0, .int .i64 0, .string ⟨#[]⟩, .slice none 0 0, .int .i64 0, .string ⟨#[]⟩, .slice none 0 0, .int .i64 0, .string ⟨#[]⟩, .slice none 0 0, .slice none 0 0]) (by kernel_rfl) Tryz.underlying85 rfl rfl ⟨rfl, rfl, by kernel_rfl, by kernel_rfl⟩ (by intro h; cases h) (fun _ => rfl) }
 rcases ag h with ⟨e, h⟩ | h; · { subst e; cases h; exact az.of (z := .agg #[.string ⟨#[]⟩, .string ⟨#[]⟩, .slice none 0 0, .int .i64 0, .string ⟨#[]⟩, .slice none 0 0, .int .i64 0]) (by kernel_rfl) Tryz.underlying92 rfl rfl ⟨rfl, rfl, by kernel_rfl, by kernel_rfl⟩ (by intro h; cases h) (fun _ => rfl) }
 rcases ag h with ⟨e, h⟩ | h; · { subst e; cases h; exact az.of (z := .agg #[.string ⟨#[]⟩, .string ⟨#[]⟩, .slice none 0 0, .int .i64 0, .string ⟨#[]⟩, .slice none 0 0, .int .i64 0, .int .i64 0, .string ⟨#[]⟩, .slice none 0 0, .int .i64 0, .string ⟨#[]⟩, .slice none 0 0, .int .i64 0, .string ⟨#[]⟩, .slice none 0 0, .string ⟨#[]⟩, .int .i64 0, .string ⟨#[]⟩, .slice none 0 0, .slice none 0 0, .int .i64 0, .string ⟨#[]⟩, .slice none 0 0, .int .i64 0, .int .i64 0, .int .i64 0, .int .i64 0, .int .i64 0, .int .i64 0, .int .i64 0, .int .i64 0]) (by kernel_rfl) Tryz.underlying94 rfl rfl ⟨rfl, rfl, by kernel_rfl, by kernel_rfl⟩ (by intro h; cases h) (fun _ => rfl) }
 rcases ag h with ⟨e, h⟩ | h; · { subst e; cases h; exact az.of (z := .agg #[.int .i64 0, .string ⟨#[]⟩, .slice none 0 0, .slice none 0 0]) (by kernel_rfl) Tryz.underlying101 rfl rfl ⟨rfl, rfl, by kernel_rfl, by kernel_rfl⟩ (by intro h; cases h) (fun _ => rfl) }
 rcases ag h with ⟨e, h⟩ | h; · { subst e; cases h; exact az.of (z := .agg #[.string ⟨#[]⟩, .string ⟨#[]⟩, .slice none 0 0, .int .i64 0, .string ⟨#[]⟩, .slice none 0 0]) (by kernel_rfl) Tryz.underlying113 rfl rfl ⟨rfl, rfl, by kernel_rfl, by kernel_rfl⟩ (by intro h; cases h) (fun _ => rfl) }
 rcases ag h with ⟨e, h⟩ | h; · { subst e; cases h; exact az.of (z := .agg #[.string ⟨#[]⟩, .string ⟨#[]⟩]) (by kernel_rfl) Tryz.underlying227 rfl rfl ⟨rfl, rfl, by kernel_rfl, by kernel_rfl⟩ (by intro h; cases h) (fun _ => rfl) }
 rcases ag h with ⟨e, h⟩ | h; · { subst e; cases h; exact az.of (z := .agg #[.pointer none, .slice none 0 0, .slice none 0 0, .slice none 0 0, .slice none 0 0, .slice none 0 0, .slice none 0 0, .bool false, .int .i64 0, .int .i64 0]) (by kernel_rfl) Tryz.underlying117 rfl rfl ⟨rfl, rfl, by kernel_rfl, by kernel_rfl⟩ (by intro h; cases h) (fun _ => rfl) }
 rcases ag h with ⟨e, h⟩ | h; · { subst e; cases h; exact az.of (z := .agg #[.slice none 0 0]) (by kernel_rfl) Tryz.underlying135 rfl rfl ⟨rfl, rfl, by kernel_rfl, by kernel_rfl⟩ (by intro h; cases h) (fun _ => rfl) }
 rcases ag h with ⟨e, h⟩ | h; · { subst e; cases h; exact az.of (z := .agg #[.int .i64 0, .map none]) (by kernel_rfl) Tryz.underlying197 rfl rfl ⟨rfl, rfl, by kernel_rfl, by kernel_rfl⟩ (by intro h; cases h) (fun _ => rfl) }
 rcases ag h with ⟨e, h⟩ | h; · { subst e; cases h; exact az.of (z := .agg #[.int .i64 0, .string ⟨#[]⟩, .slice none 0 0, .int .i64 0, .string ⟨#[]⟩, .slice none 0 0, .int .i64 0, .string ⟨#[]⟩, .slice none 0 0, .int .i64 0, .string ⟨#[]⟩, .slice none 0 0, .int .i64 0, .string ⟨#[]⟩, .slice none 0 0, .int .i64 0, .string ⟨#[]⟩, .slice none 0 0]) (by kernel_rfl) Tryz.underlying243 rfl rfl ⟨rfl, rfl, by kernel_rfl, by kernel_rfl⟩ (by intro h; cases h) (fun _ => rfl) }
 rcases ag h with ⟨e, h⟩ | h; · { subst e; cases h; exact az.of (z := .agg #[.int .i64 0, .string ⟨#[]⟩, .slice none 0 0]) (by kernel_rfl) Tryz.underlying203 rfl rfl ⟨rfl, rfl, by kernel_rfl, by kernel_rfl⟩ (by intro h; cases h) (fun _ => rfl) }
 rcases ag h with ⟨e, h⟩ | h; · { subst e; cases h; exact az.of (z := .slice none 0 0) (d := .slice 31) (by kernel_rfl) Tryz.underlying36 rfl rfl ⟨rfl, rfl, rfl⟩ (fun _ => rfl) (by intro h; cases h) }
 rcases ag h with ⟨e, h⟩ | h; · { subst e; cases h; exact az.of (z := .slice none 0 0) (d := .slice 113) (by kernel_rfl) Tryz.underlying47 rfl rfl ⟨rfl, rfl, rfl⟩ (fun _ => rfl) (by intro h; cases h) }
 rcases ag h with ⟨e, h⟩ | h; · { subst e; cases h; exact az.of (z := .slice none 0 0) (d := .slice 227) (by kernel_rfl) Tryz.underlying83 rfl rfl ⟨rfl, rfl, rfl⟩ (fun _ => rfl) (by intro h; cases h) }
 rcases ag h with ⟨e, h⟩ | h; · { subst e; cases h; exact az.of (z := .slice none 0 0) (d := .slice 3) (by kernel_rfl) Tryz.underlying99 rfl rfl ⟨rfl, rfl, rfl⟩ (fun _ => rfl) (by intro h; cases h) }
 rcases ag h with ⟨e, h⟩ | h; · { subst e; cases h; exact az.of (z := .slice none 0 0) (d := .slice 4) (by kernel_rfl) Tryz.underlying114 rfl rfl ⟨rfl, rfl, rfl⟩ (fun _ => rfl) (by intro h; cases h) }
 rcases ag h with ⟨e, h⟩ | h; · { subst e; cases h; exact az.of (z := .slice none 0 0) (d := .slice 37) (by kernel_rfl) Tryz.underlying115 rfl rfl ⟨rfl, rfl, rfl⟩ (fun _ => rfl) (by intro h; cases h) }
 rcases ag h with ⟨e, h⟩ | h; · { subst e; cases h; exact az.of (z := .slice none 0 0) (d := .slice 23) (by kernel_rfl) Tryz.underlying54 rfl rfl ⟨rfl, rfl, rfl⟩ (fun _ => rfl) (by intro h; cases h) }
 rcases ag h with ⟨e, h⟩ | h; · { subst e; cases h; exact az.of (z := .slice none 0 0) (d := .slice 119) (by kernel_rfl) Tryz.underlying50 rfl rfl ⟨rfl, rfl, rfl⟩ (fun _ => rfl) (by intro h; cases h) }
 rcases ag h with ⟨e, h⟩ | h; · { subst e; cases h; exact az.of (z := .slice none 0 0) (d := .slice 204) (by kernel_rfl) Tryz.underlying206 rfl rfl ⟨rfl, rfl, rfl⟩ (fun _ => rfl) (by intro h; cases h) }
 rcases ag h with ⟨e, h⟩ | h; · { subst e; cases h; exact az.of (z := .pointer none) (by kernel_rfl) Tryz.underlying32 rfl rfl ⟨.inr rfl, rfl⟩ (fun _ => rfl) (by intro h; cases h) }
 rcases ag h with ⟨e, h⟩ | h; · { subst e; cases h; exact az.of (z := .pointer none) (by kernel_rfl) Tryz.underlying37 rfl rfl ⟨.inr rfl, rfl⟩ (fun _ => rfl) (by intro h; cases h) }
 rcases ag h with ⟨e, h⟩ | h; · { subst e; cases h; exact az.of (z := .pointer none) (by kernel_rfl) Tryz.underlying51 rfl rfl ⟨.inr rfl, rfl⟩ (fun _ => rfl) (by intro h; cases h) }
 rcases ag h with ⟨e, h⟩ | h; · { subst e; cases h; exact az.of (z := .pointer none) (by kernel_rfl) Tryz.underlying74 rfl rfl ⟨.inr rfl, rfl⟩ (fun _ => rfl) (by intro h; cases h) }
 rcases ag h with ⟨e, h⟩ | h; · { subst e; cases h; exact az.of (z := .pointer none) (by kernel_rfl) Tryz.underlying77 rfl rfl ⟨.inr rfl, rfl⟩ (fun _ => rfl) (by intro h; cases h) }
 rcases ag h with ⟨e, h⟩ | h; · { subst e; cases h; exact az.of (z := .pointer none) (by kernel_rfl) Tryz.underlying142 rfl rfl ⟨.inr rfl, rfl⟩ (fun _ => rfl) (by intro h; cases h) }
 rcases ag h with ⟨e, h⟩ | h; · { subst e; cases h; exact az.of (z := .pointer none) (by kernel_rfl) Tryz.underlying190 rfl rfl ⟨.inr rfl, rfl⟩ (fun _ => rfl) (by intro h; cases h) }
 rcases ag h with ⟨e, h⟩ | h; · { subst e; cases h; exact az.of (z := .pointer none) (by kernel_rfl) Tryz.underlying207 rfl rfl ⟨.inr rfl, rfl⟩ (fun _ => rfl) (by intro h; cases h) }
 rcases ag h with ⟨e, h⟩ | h; · { subst e; cases h; exact az.of (z := .nilFunc) (by kernel_rfl) Tryz.underlying204 rfl rfl ⟨.inr rfl, rfl⟩ (fun _ => rfl) (by intro h; cases h) }
 rcases ag h with ⟨e, h⟩ | h; · { subst e; cases h; exact az.of (z := .nilFunc) (by kernel_rfl) Tryz.underlying188 rfl rfl ⟨.inr rfl, rfl⟩ (fun _ => rfl) (by intro h; cases h) }
 rcases ag h with ⟨e, h⟩ | h; · { subst e; cases h; exact az.of (z := .nilFunc) (by kernel_rfl) Tryz.underlying138 rfl rfl ⟨.inr rfl, rfl⟩ (fun _ => rfl) (by intro h; cases h) }
 rcases ag h with ⟨e, h⟩ | h; · { subst e; cases h; exact az.of (z := .nilFunc) (by kernel_rfl) Tryz.underlying123 rfl rfl ⟨.inr rfl, rfl⟩ (fun _ => rfl) (by intro h; cases h) }
 rcases ag h with ⟨e, h⟩ | h; · { subst e; cases h; exact az.of (z := .nilIface) (by kernel_rfl) Tryz.underlying168 rfl rfl ⟨.inr rfl, rfl⟩ (fun _ => rfl) (by intro h; cases h) }
 rcases ag h with ⟨e, h⟩ | h; · { subst e; cases h; exact az.of (z := .map none) (by kernel_rfl) Tryz.underlying195 rfl rfl ⟨rfl, rfl, .inl ⟨rfl, Tryz.underlying9⟩⟩ (fun _ => rfl) (by intro h; cases h) }
 rcases ag h with ⟨e, h⟩ | h; · { subst e; cases h; exact az.of (z := .int .i32 0) (d := .int .i32) (by kernel_rfl) Tryz.underlying21 rfl rfl ⟨rfl, rfl, rfl⟩ (fun _ => rfl) (by intro h; cases h) }
 rcases ag h with ⟨e, h⟩ | h; · { subst e; cases h; exact az.of (z := .complex .f64 0 0) (by kernel_rfl) Tryz.underlying72 rfl rfl ⟨rfl, rfl⟩ (fun _ => rfl) (by intro h; cases h) }
 rcases ag h with ⟨e, h⟩ | h; · { subst e; cases h; exact az.of (z := .agg #[.complex .f64 0 0, .complex .f64 0 0, .complex .f64 0 0, .complex .f64 0 0]) (d := .array 4 72) (by kernel_rfl) Tryz.underlying132 rfl rfl ⟨rfl, rfl, rfl, rfl⟩ (by intro h; cases h) (fun _ => rfl) }
 cases h
def X10 (w : World) : Prop := Lib.TabIs Tryz.prog w "internal/strconv.uint64pow10" .u64 Lib.pow10Tab
theorem DX : Tryz.prog.globalNamed "internal/strconv.uint64pow10" = some 3 := by kernel_rfl
theorem oq {w w' : World} (h : X10 w) (hb : w'.heap[3]? = w.heap[3]?) : X10 w' := by
 have h : w.var? Tryz.prog "internal/strconv.uint64pow10" = _ := h;show w'.var? Tryz.prog "internal/strconv.uint64pow10" = _;rw [<- h];unfold World.var?;rw [DX];simp only [Option.bind_some, hb]
theorem FY {w : World} (h : X10 w) : 3 < w.heap.size := by
 have h : w.var? Tryz.prog "internal/strconv.uint64pow10" = _ := h;unfold World.var? at h;rw [DX] at h;simp only [Option.bind_some] at h;cases e : w.heap[3]? with
 | none => rw [e] at h; cases h
 | some o => exact (Array.getElem?_eq_some_iff.1 e).1
theorem gXS : Tryz.prog.globalNamed "strconv.ErrSyntax" = some 1 := by kernel_rfl
theorem gXR : Tryz.prog.globalNamed "strconv.ErrRange" = some 2 := by kernel_rfl
def m6 (w : World) (n : String) : Prop := ∃ tp p, w.var? Tryz.prog n = some #[.iface tp p]
theorem ot {w w' : World} {n : String} {g : Nat} (hg : Tryz.prog.globalNamed n = some g) (h : m6 w n) (hb : w'.heap[g]? = w.heap[g]?) : m6 w' n := by obtain ⟨tp, p, h⟩ := h; refine ⟨tp, p, ?_⟩; rw [<- h]; unfold World.var?; rw [hg]; simp only [Option.bind_some, hb]
theorem tg {w : World} {n : String} {g : Nat} (hg : Tryz.prog.globalNamed n = some g) (h : m6 w n) : g < w.heap.size := by obtain ⟨tp, p, h⟩ := h; unfold World.var? at h; rw [hg] at h; simp only [Option.bind_some] at h; cases e : w.heap[g]? with | none => (rw [e] at h; cases h) | some o => exact (Array.getElem?_eq_some_iff.1 e).1
def XE (ok : Nat -> Prop) (w : World) : Prop := (m6 w "strconv.ErrSyntax" /\ ok 1) /\ m6 w "strconv.ErrRange" /\ ok 2
def XX (ok : Nat -> Prop) (w : World) : Prop := X10 w /\ ok 3 /\ XE ok w
def kd (l : List UInt8) (n : Int) (b : Bool) : PV := .agg [.str l, .int .i64 n, .bool b]
def ou : List PV := [kd [] 0 false, kd [100] 0 true, kd [97] 0 true, kd [112] (-1) false, kd [101] 2 false, kd [109] 2 false, kd [104] 1 false, kd [107] 1 true, kd [117] 1 false, kd [115] 2 false, kd [120] 2 false]
noncomputable def cx (b : Bool) : Cx := { P := Tryz.prog, T := T, tab := fun g => cond b (cond (Nat.beq g 0) (some ou) none) none, X := XX }
theorem bo (b : Bool) : a6 (cx b) :=
 ⟨DW, fun ok ok' w w' h hok hs hlt => ⟨oq h.1 (hs _ h.2.1 (hlt _ h.2.1)), hok _ h.2.1, ⟨ot gXS h.2.2.1.1 (hs _ h.2.2.1.2 (hlt _ h.2.2.1.2)), hok _ h.2.2.1.2⟩, ot gXR h.2.2.2.1 (hs _ h.2.2.2.2 (hlt _ h.2.2.2.2)), hok _ h.2.2.2.2⟩⟩
theorem bp (b : Bool) : (cx b).P.follows .mixedOrders = true := by kernel_rfl
theorem pcv {b : Bool} {f : FuncId} {fn : Func} {c : Code} {args : List SV} {ηi : Nat -> AO} {r : Res} (cfg : Cfg) (hf : (cx b).P.funcs[f]? = some fn) (hvc : vc (cx b) cfg c (Fi (cx b) fn.results.toList r) (S.init args ηi)) (h1 : (fn.name == "runtime.NumGoroutine") = false := by kernel_rfl) (hb : fn.body = some c := by rfl) (h2 : (Nat.ble args.length fn.ntmps && Nat.ble fn.ntmps 2000) = true := by rfl) (h3 : okC fn.ntmps c = true := by kernel_rfl) : PC (cx b) f ηi args r := cS (bo b) (bp b) cfg hf h1 hb h2 h3 hvc
theorem pmv {b : Bool} {f : FuncId} {fn : Func} {c : Code} {args : List SV} {I O : List (Nat × AO)} {x : SV} (cfg : Cfg) (hf : (cx b).P.funcs[f]? = some fn) (hvc : vc (cx b) cfg c (G4 (cx b) fn.results.toList I O x) (S.init args (am I))) (h1 : (fn.name == "runtime.NumGoroutine") = false := by kernel_rfl) (hb : fn.body = some c := by rfl) (h2 : (Nat.ble args.length fn.ntmps && Nat.ble fn.ntmps 2000) = true := by rfl) (h3 : okC fn.ntmps c = true := by kernel_rfl) (h4 : okM I args O x = true := by rfl) : PM (cx b) f I args O x := aW (bo b) (bp b) cfg hf h1 hb h2 h3 h4 hvc
mutual
def tmv : Tm -> PV
 | .mk k n l => .agg [.int .i64 k, .str n, .lst (af l)]
def af : List Tm -> List PV
 | [] => []
 | t :: ts => tmv t :: af ts
end
def TV (t : Tm) : PV := .agg [.int .i64 t.kind, .str t.name, .lst (af t.kids)]
theorem AM (t : Tm) : tmv t = TV t := by cases t; rfl
theorem cw (l : List Tm) : af l = l.map TV := by
 induction l with
 | nil => rfl
 | cons t l ih => simp [af, ih, AM]
theorem ab (l : List Tm) : (af l).length = l.length := by rw [cw, List.length_map]
theorem dm {l : List Tm} {i : Nat} (h : i < l.length) : (af l)[i]? = some (TV l[i]) := by rw [cw, List.getElem?_map, List.getElem?_eq_getElem h]; rfl
theorem bQ {l : List Tm} {i : Nat} (h : i < l.length) : (af l)[((i : Nat) : Int).toNat]? = some (TV l[i]) := dm h
theorem gD (l : List Tm) : gm (true, 3) (af l) := by
 induction l with
 | nil => trivial
 | cons t l ih => exact ⟨by rw [AM]; rfl, ih⟩
theorem aO (l l' : List Tm) : af (l ++ l') = af l ++ af l' := by simp [cw]
theorem dR (a : Tm) : [TV a] = af [a] := (cw [a]).symm
theorem cK (a b : Tm) : [TV a, TV b] = af [a, b] := (cw [a, b]).symm
theorem xf (a b c : Tm) : [TV a, TV b, TV c] = af [a, b, c] := (cw [a, b, c]).symm
theorem aR (k : Int) (n : Bs) : LEP (.agg [.int .i64 k, .str n, .nilS]) (TV (.mk k n [])) := by
 intro ok w v h;simp only [TV, af, Tm.kind, Tm.name, Tm.kids];rw [RP] at h ⊢;obtain ⟨vs, h1, h2, h3⟩ := h;refine ⟨vs, h1, h2, ?_⟩
 match vs, h3 with
 | [a, b, c], h3 =>
  refine ⟨h3.1, h3.2.1, ?_, trivial⟩;have := h3.2.2.1;rw [RP] at this;rw [RP, this];exact ⟨none, 0, 0, rfl, Nat.le_refl _, by simp [maxLen], trivial⟩
inductive Fit : Tm -> Prop where
 | mk {k : Int} {n : Bs} {l : List Tm} : l.length <= 9223372036854775807 -> n.length <= 9223372036854775807 -> (∀ t ∈ l, Fit t) -> Fit (.mk k n l)
theorem Fit.len {t : Tm} (h : Fit t) : t.kids.length <= 9223372036854775807 := by cases h; assumption
theorem Fit.nlen {t : Tm} (h : Fit t) : t.name.length <= 9223372036854775807 := by cases h; assumption
theorem Fit.kid {t u : Tm} (h : Fit t) (hu : u ∈ t.kids) : Fit u := by cases h; rename_i h; exact h u hu
theorem Tm.indk {P : Tm -> Prop} (h : ∀ t, (∀ u ∈ t.kids, P u) -> P t) (t : Tm) : P t := Tm.ind (fun k n l ih => h (.mk k n l) ih) t
end Go.Sl
namespace Go.Sl
open Go Go.Vc Go.Proofs
abbrev K (b : Bool) (f : FuncId) (args : List SV) (r : Res) : Prop := PC (cx b) f (fun _ => .no) args r
abbrev tv (t : Tm) : SV := .p (TV t)
abbrev iv (n : Int) : SV := .p (.int .i64 n)
abbrev sv (s : Bs) : SV := .p (.str s)
abbrev lv (l : List Tm) : SV := .p (.lst (af l))
theorem Tm.eq_iff (t u : Tm) : t = u ↔ t.kind = u.kind /\ t.name = u.name /\ t.kids = u.kids := by
 cases t; cases u;simp [Tm.kind, Tm.name, Tm.kids]
theorem Tm.sizes_take {l : List Tm} {i : Nat} (h : i < l.length) : Tm.sizes (l.take (i + 1)) = Tm.sizes (l.take i) + l[i].size := by
 rw [List.take_succ_eq_append_getElem h, Tm.sizes_append];simp [Tm.sizes]
theorem Tm.size_eq (t : Tm) : t.size = Tm.sizes t.kids + 1 := by cases t; rfl
theorem AP (b : Bool) : ∀ t, Fit t -> K b 16 [tv t] (.pv (.int .i64 (IntKind.i64.wrap (t.size : Nat)))) := by
 intro t
 induction t using Tm.indk with
 | h t ih =>
 intro hf;have hlen := hf.len;refine pcv {} Tryz.func16 ?_;refine goL ?_;refine ⟨Rd t.kids.length, fun i => S.of [(1, .ptr 1 0), (3, iv (IntKind.i64.wrap ((Tm.sizes (t.kids.take i.1) + 1 : Nat) : Int))), (4, iv (i.1 : Int))] [(1, .var true 26 (tv t))], fun i => t.kids.length - i.1, Rd.zero _, ?_, ?_⟩
 ·exact Ge.go
 rintro ⟨i, hi⟩
 refine goL ?_;refine aa ?_ ?_ <;> intro h1
 ·have hlt : i < t.kids.length := by simpa [ab] using h1
  refine goL ?_;refine ⟨Int.natCast_nonneg _, TV t.kids[i], bQ hlt, rfl, rfl, goL ?_⟩;refine cC (ih t.kids[i] (List.getElem_mem hlt) (hf.kid (List.getElem_mem hlt))) (goL ?_);refine ⟨_, vL _ _, goL ?_⟩;refine ⟨_, ry (by show _ <= ((i : Nat) : Int) + 1; omega) (by show ((i : Nat) : Int) + 1 <= _; omega), goL ?_⟩;refine ⟨⟨i + 1, hlt⟩, ?_, ?_⟩
  ·refine Ge.of rfl ?_ ?_
   ·conv => whnf
    refine ⟨LE.of rfl, ?_⟩
    conv => whnf
    refine ⟨LE.of ?_, ?_⟩
    ·rw [Tm.sizes_take hlt]
     congr 3
     show ((Tm.sizes (t.kids.take i) + 1 : Nat) : Int) + (t.kids[i].size : Int) = _;omega
    repeat (conv => whnf); refine ⟨LE.of rfl, ?_⟩
    trivial
   ·repeat (conv => whnf); refine ⟨OLE.of rfl, ?_⟩
    trivial
  ·show t.kids.length - (i + 1) < t.kids.length - i;omega
 ·have hge : i = t.kids.length := by simp [ab] at h1; omega
  refine goL ?_;refine LEP.of ?_;rw [Tm.size_eq];show PV.int .i64 (IntKind.i64.wrap ((Tm.sizes (t.kids.take i) + 1 : Nat) : Int)) = _;rw [List.take_of_length_le (by omega)]
theorem AQ (b : Bool) (l m : List Tm) (hl : l.length <= 9223372036854775807) (ih : ∀ t ∈ l, ∀ u, K b 130 [tv t, tv u] (.pv (.bool (decide (t = u))))) :
  K b 176 [lv l, lv m, .fn 130 []] (.pv (.bool (decide (l = m)))) := by
 refine pcv {} Tryz.func176 ?_;refine goL ?_;refine aa ?_ ?_ <;> intro h1
 ·refine goL ?_;refine LEP.of ?_;simp [ab] at h1;simp;intro e;exact h1 (by rw [e])
 have h3 : l.length = m.length := by simp [ab] at h1; omega
 refine goL ?_;refine ⟨{ i : Rd l.length // l.take i.1 = m.take i.1 }, fun i => S.of [(1, lv m), (2, .fn 130 []), (15, lv l), (16, iv ((af l).length : Int)), (17, iv (i.1.1 : Int))] [], fun i => l.length - i.1.1, ⟨Rd.zero _, rfl⟩, ?_, ?_⟩
 ·exact Ge.go
 rintro ⟨⟨i, hi⟩, htake⟩
 refine goL ?_;refine aa ?_ ?_ <;> intro h4
 ·have hlt : i < l.length := by simpa [ab] using h4
  have hlt' : i < m.length := h3 ▸ hlt;refine goL ?_;refine ⟨Int.natCast_nonneg _, TV l[i], bQ hlt, rfl, rfl, goL ?_⟩;refine ⟨Int.natCast_nonneg _, TV m[i], bQ hlt', rfl, rfl, goL ?_⟩;refine cC (ih l[i] (List.getElem_mem hlt) m[i]) (goL ?_);refine aa ?_ ?_ <;> intro h5
  ·refine goL ?_;refine LEP.of ?_;simp at h5;simp;intro e;exact h5 (by simp [e])
  ·have h5 : l[i] = m[i] := by simpa using h5
   refine goL ?_;refine ⟨_, ry (by show _ <= ((i : Nat) : Int) + 1; omega) (by show ((i : Nat) : Int) + 1 <= _; omega), goL ?_⟩;refine ⟨⟨⟨i + 1, hlt⟩, ?_⟩, ?_, ?_⟩
   ·show l.take (i + 1) = m.take (i + 1);rw [List.take_succ_eq_append_getElem hlt, List.take_succ_eq_append_getElem hlt', h5, htake]
   ·exact Ge.go
   ·show l.length - (i + 1) < l.length - i;omega
 ·have hge : i = l.length := by simp [ab] at h4; omega
  refine goL ?_;refine LEP.of ?_;have : l = m := by
   have ht : l.take i = m.take i := htake
   rwa [List.take_of_length_le (by omega), List.take_of_length_le (by omega)] at ht
  simp [this]
theorem cy (b : Bool) : ∀ t, Fit t -> ∀ u, K b 130 [tv t, tv u] (.pv (.bool (decide (t = u)))) := by
 intro t
 induction t using Tm.indk with
 | h t ih =>
 intro hf u;have hres : decide (t = u) = (decide (t.kind = u.kind) && (decide (t.name = u.name) && decide (t.kids = u.kids))) := by
  rw [Bool.eq_iff_iff];simp only [decide_eq_true_eq, Bool.and_eq_true];exact Tm.eq_iff t u
 rw [hres];refine pcv {} Tryz.func130 ?_;refine goL ?_;refine aa ?_ ?_ <;> intro h1
 ·have h1 : t.kind = u.kind := by simpa using h1
  refine goL ?_;refine aa ?_ ?_ <;> intro h2
  ·have h2 : t.name = u.name := by simpa using h2
   refine goL ?_;refine cC (AQ b t.kids u.kids hf.len fun x hx y => ih x hx (hf.kid hx) y) (goL ?_);refine LEP.of ?_;simp [h1, h2]
  ·refine goL ?_;refine LEP.of ?_;simp at h2;simp [h2]
 ·refine goL ?_;refine LEP.of ?_;simp at h1;simp [h1]
end Go.Sl
