/- A calculus of verification conditions, part 18: what walks are typed with. -/
import Derived.Test.YtpeabfflebgamaaDoorWd
set_option linter.unusedVariables false
namespace Go.Vc
open Go Go.RowKit
theorem CallVC.pr {C : Cx} {η : Nat → AO} {f : FuncId} {args args' : List SV} {r : Res} (h : PC C f (fun _ => .no) args' r) (hk : SV.keysL args' = []) (hs : (args.all noSlc || r.scalar) = true) : CallVC C η f args args' r := by
  refine CallVC.pure args' h (LEL.refl _) hk ?_
  cases e : r.scalar with
  | true => exact .inl rfl
  | false =>
    rw [e, Bool.or_false] at hs
    exact .inr fun x hx => List.all_eq_true.1 hs x hx
/-- The same, less being asked of the arguments. -/
theorem CallVC.le {C : Cx} {η : Nat → AO} {f : FuncId} {args vargs args' : List SV} {r : Res} (h : PC C f (fun _ => .no) args' r) (hle : LEL vargs args') (hk : SV.keysL args' = []) (hs : (args.all noSlc || r.scalar) = true) : CallVC C η f args vargs r := by
  refine CallVC.pure args' h hle hk ?_
  cases e : r.scalar with
  | true => exact .inl rfl
  | false =>
    rw [e, Bool.or_false] at hs
    exact .inr fun x hx => List.all_eq_true.1 hs x hx
theorem LEP.of {x y : PV} (h : x = y) : LEP x y := h ▸ LEP.refl x
theorem LEL.cons {x y : SV} {xs ys : List SV} (h : LE x y) (h' : LEL xs ys) : LEL (x :: xs) (y :: ys) := ⟨h, h'⟩
theorem LEL.nil : LEL [] [] := trivial
theorem wrap64 {n : Int} (h0 : -9223372036854775808 ≤ n) (h1 : n ≤ 9223372036854775807) : IntKind.i64.wrap n = n := by
  simp only [IntKind.wrap, IntKind.bits, IntKind.signed]
  simp
  omega
theorem wrapN {a : Int} {n : Nat} (h : a = n) (hn : n ≤ 9223372036854775807) : IntKind.i64.wrap a = n := by
  rw [h]
  exact wrap64 (by omega) (by omega)
theorem wrap64_add (a b : Int) : IntKind.i64.wrap (IntKind.i64.wrap a + IntKind.i64.wrap b) = IntKind.i64.wrap (a + b) := by
  simp only [IntKind.wrap, IntKind.bits, IntKind.signed]
  simp
  omega
theorem IndepAnd {own : Nat → Bool} {P : List Nat} {ops : Array Oper} {Q : Prop} (h : indep own P ops = true) (q : Q) : Indep1 own P ops ∧ Q := ⟨⟨h⟩, q⟩
theorem AltAnd {C : Cx} {own : Nat → Bool} {P : List Nat} {ops : Array Oper} {x y : Tr} {K : S → Prop} {s : S} (h1 : vcTr C own P ops x K s) (h2 : vcTr C own P ops y K s) : vcTr C own P ops x K s ∧ vcTr C own P ops y K s := ⟨h1, h2⟩
theorem TreeAnd {own : Nat → Bool} {P : List Nat} {ops : Array Oper} {b : List Nat} {t : Tr} {Q : Prop} (h : treeOk own P ops b t = true) (q : Q) : Tree1 own P ops b t ∧ Q := ⟨⟨h⟩, q⟩
def trT : List (Nat × List Nat × Tr) → Nat → Option (List Nat × Tr)
  | [], _ => none
  | (k, l) :: r, i => cond (Nat.beq i k) (some l) (trT r i)
def psT : List (Nat × List Nat) → Nat → List Nat
  | [], _ => []
  | (k, l) :: r, i => cond (Nat.beq i k) l (psT r i)
def kpT : List (Nat × List Nat × List Nat) → Nat → Option (List Nat × List Nat)
  | [], _ => none
  | (k, l) :: r, i => cond (Nat.beq i k) (some l) (kpT r i)
/-- A counting loop's rounds. -/
abbrev Rd (n : Nat) := { i : Nat // i ≤ n }
def Rd.zero (n : Nat) : Rd n := ⟨0, Nat.zero_le _⟩
def GeL (s : S) : List (Nat × SV) → Prop
  | [] => True
  | (t, x) :: r => (s.ρ t).force fun y => LE y x ∧ GeL s r
def GeO (s : S) : List (Nat × AO) → Prop
  | [] => True
  | (t, x) :: r => (s.η t).force fun y => OLE y x ∧ GeO s r
theorem GeL.get {s : S} : ∀ {l : List (Nat × SV)}, GeL s l → ∀ t x, (t, x) ∈ l → LE (s.ρ t) x
  | (k, y) :: r, h, t, x, hm => by
    rw [GeL, SV.force_eq] at h
    rcases List.mem_cons.1 hm with e | hm
    · cases e; exact h.1
    · exact GeL.get h.2 t x hm
theorem GeO.get {s : S} : ∀ {l : List (Nat × AO)}, GeO s l → ∀ t x, (t, x) ∈ l → OLE (s.η t) x
  | (k, y) :: r, h, t, x, hm => by
    rw [GeO, AO.force_eq] at h
    rcases List.mem_cons.1 hm with e | hm
    · cases e; exact h.1
    · exact GeO.get h.2 t x hm
theorem Ge.of {s : S} {l : List (Nat × SV)} {o : List (Nat × AO)} (hk : okS l o = true) (hl : GeL s l) (ho : GeO s o) : Ge s (S.of l o) := by
  simp only [okS, Bool.and_eq_true, List.all_eq_true] at hk
  refine Ge0.ge ⟨fun t => ?_, fun κ => ?_, ⟨fun t κ h => ?_, fun t κ h => ?_⟩⟩
  · show LE (s.ρ t) (look l t)
    rcases look_mem (l := l) (t := t) with e | e
    · rw [e]; intro _ _ _ _ _; trivial
    · exact hl.get _ _ e
  · show OLE (s.η κ) (lookO o κ)
    rcases lookO_mem (l := o) (t := κ) with e | e
    · rw [e]; exact .inl rfl
    · exact ho.get _ _ e
  · change κ ∈ (look l t).keys at h
    rcases look_mem (l := l) (t := t) with e | e
    · rw [e] at h; cases h
    · exact hk.1 _ e κ h
  · change κ ∈ (lookO o t).keys at h
    rcases lookO_mem (l := o) (t := t) with e | e
    · rw [e] at h; cases h
    · exact hk.2 _ e κ h
/-- A naming. -/
def gn : List (Nat × Nat) → Nat → Nat
  | [], k => k
  | (a, b) :: r, k => cond (Nat.beq k a) b (gn r k)
def GeLr (g : Nat → Nat) (s : S) : List (Nat × SV) → Prop
  | [] => True
  | (t, x) :: r => (s.ρ t).force fun y => LE y (x.ren g) ∧ GeLr g s r
def GeOr (g : Nat → Nat) (s : S) : List (Nat × AO) → Prop
  | [] => True
  | (t, x) :: r => (s.η (g t)).force fun y => OLE y (x.ren g) ∧ GeOr g s r
theorem GeLr.get {g : Nat → Nat} {s : S} : ∀ {l : List (Nat × SV)}, GeLr g s l → ∀ t x, (t, x) ∈ l → LE (s.ρ t) (x.ren g)
  | (k, y) :: r, h, t, x, hm => by
    rw [GeLr, SV.force_eq] at h
    rcases List.mem_cons.1 hm with e | hm
    · cases e; exact h.1
    · exact GeLr.get h.2 t x hm
theorem GeOr.get {g : Nat → Nat} {s : S} : ∀ {l : List (Nat × AO)}, GeOr g s l → ∀ t x, (t, x) ∈ l → OLE (s.η (g t)) (x.ren g)
  | (k, y) :: r, h, t, x, hm => by
    rw [GeOr, AO.force_eq] at h
    rcases List.mem_cons.1 hm with e | hm
    · cases e; exact h.1
    · exact GeOr.get h.2 t x hm
def okN (G : List (Nat × Nat)) (o : List (Nat × AO)) : Bool := (G.all fun z => Nat.blt z.1 2000) && o.all fun y => o.all fun z => Nat.beq y.1 z.1 || !Nat.beq (gn G y.1) (gn G z.1)
theorem gn_pin {G : List (Nat × Nat)} {κ : Nat} (h : (G.all fun z => Nat.blt z.1 2000) = true) (hκ : 2000 ≤ κ) : gn G κ = κ := by
  induction G with
  | nil => rfl
  | cons z G ih =>
    obtain ⟨a, b⟩ := z
    rw [List.all_cons, Bool.and_eq_true] at h
    have h1 : a < 2000 := by have := h.1; rw [Nat.blt_eq] at this; exact this
    show cond (Nat.beq κ a) b (gn G κ) = κ
    rw [beq_ite, if_neg (by omega), ih h.2]
theorem Ge.ren (G : List (Nat × Nat)) {s : S} {l : List (Nat × SV)} {o : List (Nat × AO)} (hk : okS l o = true) (hn : okN G o = true) (hl : GeLr (gn G) s l) (ho : GeOr (gn G) s o) : Ge s (S.of l o) := by
  simp only [okS, Bool.and_eq_true, List.all_eq_true] at hk
  rw [okN, Bool.and_eq_true] at hn
  refine ⟨gn G, fun t => ?_, fun κ => ?_, fun κ κ' h1 h2 e => ?_, fun κ hκ => gn_pin hn.1 hκ, ⟨fun t κ h => ?_, fun t κ h => ?_⟩⟩
  · show LE (s.ρ t) ((look l t).ren (gn G))
    rcases look_mem (l := l) (t := t) with e | e
    · rw [e]; intro _ _ _ _ _; trivial
    · exact hl.get _ _ e
  · show OLE (s.η (gn G κ)) ((lookO o κ).ren (gn G))
    rcases lookO_mem (l := o) (t := κ) with e | e
    · rw [e]; exact .inl rfl
    · exact ho.get _ _ e
  · have hin : ∀ κ, (lookO o κ).mine = true → (κ, lookO o κ) ∈ o := fun κ h => by
      rcases lookO_mem (l := o) (t := κ) with e | e
      · rw [e] at h; cases h
      · exact e
    have a := hin κ h1
    have b := hin κ' h2
    have := hn.2
    rw [List.all_eq_true] at this
    have := this _ a
    rw [List.all_eq_true] at this
    have := this _ b
    rw [Bool.or_eq_true] at this
    rcases this with h | h
    · exact Nat.eq_of_beq_eq_true h
    · have h : (!Nat.beq (gn G κ) (gn G κ')) = true := h
      rw [e] at h
      simp at h
  · change κ ∈ (look l t).keys at h
    rcases look_mem (l := l) (t := t) with e | e
    · rw [e] at h; cases h
    · exact hk.1 _ e κ h
  · change κ ∈ (lookO o t).keys at h
    rcases lookO_mem (l := o) (t := t) with e | e
    · rw [e] at h; cases h
    · exact hk.2 _ e κ h
theorem OLE.of {a b : AO} (h : a = b) : OLE a b := .inr (.inl h)
theorem OLE.var {own : Bool} {t : Nat} {x y : SV} (h : LE x y) : OLE (.var own t x) (.var own t y) := .inr (.inr (.inl ⟨own, t, x, y, rfl, rfl, h⟩))
end Go.Vc
