/- A calculus of verification conditions, part 2: over a function's code; the state of a walk, in a world. -/
import Derived.Test.YtcdbgkcijelopaaDoorVc1
import Derived.Orders
set_option linter.unusedVariables false
namespace Go.Vc
open Go Go.RowKit

/-- Which orders of a drawn region are walked: one operation that may change places with all that may come ahead of it; or every one that may come next. -/
inductive Tr where
  | fin
  | one (i : Nat) (t : Tr)
  | alt (a b : Tr)
def Tr.heads : Tr → List Nat
  | .fin => []
  | .one i _ => [i]
  | .alt a b => a.heads ++ b.heads
/-- Which rows become plain lists ahead of a region; which new rows are kept as one's own. -/
structure Cfg where
  own : Nat → Bool := fun _ => false
  fz : Nat → List Nat := fun _ => []
  ps : Nat → List Nat := fun _ => []
  kp : Nat → Option (List Nat × List Nat) := fun _ => none
  tr : Nat → Option (List Nat × Tr) := fun _ => none

mutual
def SV.sub (κ : Nat) (L : List PV) : SV → SV
  | .slc κ' => cond (Nat.beq κ' κ) (.p (.lst L)) (.slc κ')
  | .rowE κ' sz i => cond (Nat.beq κ' κ) .no (.rowE κ' sz i)
  | .fn f caps => .fn f (SV.subL κ L caps)
  | .mix cs => ofCells (SV.subL κ L cs)
  | .tupS cs => .tupS (SV.subL κ L cs)
  | .ptr κ' off => cond (Nat.beq κ' κ) .no (.ptr κ' off)
  | x => x
def SV.subL (κ : Nat) (L : List PV) : List SV → List SV
  | [] => []
  | x :: xs => x.sub κ L :: SV.subL κ L xs
end
def AO.sub (κ : Nat) (L : List PV) : AO → AO
  | .var own t x => .var own t (x.sub κ L)
  | o => o
/-- A row of one's own becomes a plain list: it is never written again. -/
def S.frz (s : S) (κ : Nat) : S :=
  match s.η κ with
  | .row _ _ L => match s with | ⟨ρ, η⟩ => ⟨fun t => (ρ t).sub κ L, fun t => cond (Nat.beq t κ) .no ((η t).sub κ L)⟩
  | _ => s
def S.frzL (s : S) : List Nat → S
  | [] => s
  | κ :: r => (s.frz κ).frzL r

def SV.only (i : Nat) : SV → SV
  | .ptr κ off => cond (Nat.beq κ i) (.ptr κ off) .no
  | _ => .no
/-- The objects of P are named by their own slots alone. -/
def SV.nrm : List Nat → Option Nat → SV → SV
  | [], _, x => x
  | i :: P, d, x => SV.nrm P d (match d with
    | some q => cond (Nat.beq q i) (x.only i) (x.purge i)
    | none => x.purge i)
def AO.nrm (P : List Nat) : AO → AO
  | .var own t x => .var own t (x.nrm P none)
  | o => o
def U.nrm (P : List Nat) (d : Option Nat) (u : U) : U :=
  match P with
  | [] => u
  | i :: P => match u with
    | ⟨x, none, none, kill⟩ => ⟨x.nrm (i :: P) d, none, none, kill⟩
    | ⟨x, some o, none, kill⟩ => ⟨x.nrm (i :: P) d, some (o.nrm (i :: P)), none, kill⟩
    | ⟨x, none, some (q, o), kill⟩ => ⟨x.nrm (i :: P) d, none, some (q, o.nrm (i :: P)), kill⟩
    | ⟨x, some o, some (q, o'), kill⟩ => ⟨x.nrm (i :: P) d, some (o.nrm (i :: P)), some (q, o'.nrm (i :: P)), kill⟩
def S.nrm (P : List Nat) (s : S) : S :=
  match P with
  | [] => s
  | i :: P => match s with | ⟨ρ, η⟩ => ⟨fun t => (ρ t).nrm (i :: P) (some t), fun κ => (η κ).nrm (i :: P)⟩
/-- What is left of an operation that is let out. -/
def skU (P : List Nat) (d : Option Nat) : U := { x := match d with | some p => cond (P.contains p) .no (.tupS []) | none => .tupS [] }
/-- A call that writes to objects. -/
def MVC (C : Cx) (o : Oper) (s : S) (K : S → Prop) : Prop :=
  match o.op, o.dst with
  | .call c, some d => match c.callee with
    | .value f => match s.ev f with
      | .fn f caps => SV.forceL (c.args.toList.map s.ev ++ caps) fun args => ∃ s', MCallVC C s f args d s' ∧ S.force s' K
      | _ => False
    | _ => False
  | _, _ => False
def vcOps (C : Cx) (own : Nat → Bool) (P : List Nat) (ops : Array Oper) : List Oper → (S → Prop) → S → Prop
  | [], K, s => K s
  | o :: rest, K, s => match o.guard with
    | none => cond (isMut own o) (MVC C o s fun s => (s.nrm P).force fun s => vcOps C own P ops rest K s) (VC C own o s.ev s.η fun u => (u.nrm P o.dst).force fun u => (s.app o.dst u).force fun s => vcOps C own P ops rest K s)
    | some (j, want) => match (ops[j]?).bind (·.dst) with
      | none => False
      | some g => match s.ρ g with
        | .p (.bool b) => Bool.rec (motive := fun _ => Prop)
            (cond want (((s.put g (.p (.bool false))).app o.dst (skU P o.dst)).force fun s => vcOps C own P ops rest K s) (cond (isMut own o) (MVC C o (s.put g (.p (.bool false))) fun s => (s.nrm P).force fun s => vcOps C own P ops rest K s) (VC C own o (s.put g (.p (.bool false))).ev s.η fun u => (u.nrm P o.dst).force fun u => ((s.put g (.p (.bool false))).app o.dst u).force fun s => vcOps C own P ops rest K s)))
            (cond want (cond (isMut own o) (MVC C o (s.put g (.p (.bool true))) fun s => (s.nrm P).force fun s => vcOps C own P ops rest K s) (VC C own o (s.put g (.p (.bool true))).ev s.η fun u => (u.nrm P o.dst).force fun u => ((s.put g (.p (.bool true))).app o.dst u).force fun s => vcOps C own P ops rest K s)) (((s.put g (.p (.bool true))).app o.dst (skU P o.dst)).force fun s => vcOps C own P ops rest K s)) b
        | .tupS _ => (s.app o.dst (skU P o.dst)).force fun s => vcOps C own P ops rest K s
        | _ => False

/-- Is an operation one that others may change places with: it reads, or makes a new object? -/
def freeO0 (o : Oper) : Bool :=
  match o.op with
  | .move _ | .assign _ | .pick .. | .alloc _ | .load .. | .nilCheck _ | .binOp .. | .unOp .. | .convert .. | .makeFunc .. | .fieldAddr .. | .indexAddr .. | .index .. | .slice .. | .extract .. | .build .. | .buildSlice .. => true
  | .call c => match c.callee with
    | .value _ => true
    | .builtin b => match b with
      | .len | .max | .min => true
      | _ => false
    | _ => false
  | _ => false
def freeO (own : Nat → Bool) (o : Oper) : Bool := !isMut own o && freeO0 o
/-- Of each operation, which ones stand ahead of it in every order: a bit each. -/
def mask (acc : List Nat) (o : Oper) : Nat := o.after.toList.foldl (fun m e => cond (Region.binds .any e) (m ||| 2 ^ e.on ||| acc.getD e.on 0) m) 0
def masks : List Oper → List Nat → List Nat
  | [], acc => acc
  | o :: r, acc => masks r (acc ++ [mask acc o])
/-- Whatever order a region draws comes to the same: of two operations that may come either way round each is free, and neither looks at what the other one leaves. -/
def stO (P : List Nat) (o : Oper) : Option Nat :=
  match o.op, o.dst with
  | .store _ (.tmp p) _, none => cond (P.contains p) (some p) none
  | _, _ => none
def noTmp (p : Nat) (x : Oper) : Bool := x.op.operands.all fun y => match y with | .tmp t => !(Nat.beq t p) | _ => true
/-- May the two change places? -/
def swapB (own : Nat → Bool) (P : List Nat) (ops : Array Oper) (o x : Oper) : Bool :=
  o.apart ops x && (x.apart ops o && (freeO own o && freeO own x || (match stO P o with | some p => freeO own x && noTmp p x | none => match stO P x with | some p => freeO own o && noTmp p o | none => false)))
def indep (own : Nat → Bool) (P : List Nat) (ops : Array Oper) : Bool :=
  let b := masks ops.toList []
  ops.toList.zipIdx.all fun (o, i) => (o.after.toList.all fun e => Nat.blt e.on i || !Region.binds .any e) && (o.guard.all fun g => o.after.toList.any fun e => Nat.beq e.on g.1 && Region.binds .any e) &&
    ops.toList.zipIdx.all fun (x, j) => !(Nat.blt j i) || (b.getD i 0).testBit j || swapB own P ops o x

/-- Do the orders stand for all of them? -/
def okT (own : Nat → Bool) (P : List Nat) (ops : Array Oper) (b : List Nat) : Bool → List Nat → Tr → Bool
  | full, rem, .fin => full && rem.isEmpty
  | full, rem, .one i t => rem.contains i && (!full || rem.all fun j => Nat.beq j i || (b.getD j 0).testBit i || (match ops[i]?, ops[j]? with | some o, some x => swapB own P ops o x | _, _ => false)) && okT own P ops b true (rem.erase i) t
  | full, rem, .alt x y => (!full || rem.all fun j => (x.heads ++ y.heads).contains j || rem.any fun i => (b.getD j 0).testBit i) && okT own P ops b false rem x && okT own P ops b false rem y
def eqL : List Nat → List Nat → Bool
  | [], [] => true
  | a :: l, b :: r => Nat.beq a b && eqL l r
  | _, _ => false
theorem eqL_eq : ∀ {l r : List Nat}, eqL l r = true → l = r
  | [], [], _ => rfl
  | [], _ :: _, h => by cases h
  | _ :: _, [], h => by cases h
  | a :: l, b :: r, h => by
    rw [eqL, Bool.and_eq_true] at h
    rw [Nat.eq_of_beq_eq_true h.1, eqL_eq h.2]
def treeOk (own : Nat → Bool) (P : List Nat) (ops : Array Oper) (b : List Nat) (t : Tr) : Bool :=
  (ops.toList.zipIdx.all fun (o, i) => (o.after.toList.all fun e => Nat.blt e.on i || !Region.binds .any e) && (o.guard.all fun g => o.after.toList.any fun e => Nat.beq e.on g.1 && Region.binds .any e)) &&
    eqL (masks ops.toList []) b && okT own P ops b true (List.range b.length) t
structure Indep1 (own : Nat → Bool) (P : List Nat) (ops : Array Oper) : Prop where
  h : indep own P ops = true
structure Tree1 (own : Nat → Bool) (P : List Nat) (ops : Array Oper) (b : List Nat) (t : Tr) : Prop where
  h : treeOk own P ops b t = true
def opAt : List Oper → Nat → (Oper → Prop) → Prop
  | [], _, _ => False
  | o :: _, 0, k => k o
  | _ :: r, i + 1, k => opAt r i k
theorem opAt_eq : ∀ (l : List Oper) (i : Nat) (k : Oper → Prop), opAt l i k ↔ ∃ o, l[i]? = some o ∧ k o
  | [], i, k => ⟨fun h => h.elim, fun ⟨o, h, _⟩ => by simp at h⟩
  | o :: l, 0, k => ⟨fun h => ⟨o, rfl, h⟩, fun ⟨o', h, hk⟩ => by simp at h; subst h; exact hk⟩
  | o :: l, i + 1, k => by simpa [opAt] using opAt_eq l i k
def vcTr (C : Cx) (own : Nat → Bool) (P : List Nat) (ops : Array Oper) : Tr → (S → Prop) → S → Prop
  | .fin, K, s => K s
  | .one i t, K, s => opAt ops.toList i fun o => vcOps C own P ops [o] (vcTr C own P ops t K) s
  | .alt x y, K, s => vcTr C own P ops x K s ∧ vcTr C own P ops y K s

/-- Less is known of the second one. -/
def OLE (a b : AO) : Prop := b = .no ∨ a = b ∨ ∃ own t x y, a = .var own t x ∧ b = .var own t y ∧ LE x y
structure WF (s : S) : Prop where
  ρ : ∀ t κ, κ ∈ (s.ρ t).keys → (s.η κ).live = true
  η : ∀ t κ, κ ∈ (s.η t).keys → (s.η κ).live = true
structure Ge (s σ : S) : Prop where
  ρ : ∀ t, LE (s.ρ t) (σ.ρ t)
  η : ∀ κ, OLE (s.η κ) (σ.η κ)
  wf : WF σ

/-- A state of a walk, typed out. -/
def S.of (l : List (Nat × SV)) (o : List (Nat × AO)) : S := { ρ := look l, η := lookO o }
def okS (l : List (Nat × SV)) (o : List (Nat × AO)) : Bool := (l.all fun x => x.2.keys.all fun κ => (lookO o κ).live) && (o.all fun x => x.2.keys.all fun κ => (lookO o κ).live)
/-- Reckoned out: what some slots, and some objects, hold. -/
def flatL : List Nat → S → (List (Nat × SV) → Prop) → Prop
  | [], _, k => k []
  | t :: ts, s, k => (s.ρ t).force fun x => flatL ts s fun l => k ((t, x) :: l)
def flatO : List Nat → S → (List (Nat × AO) → Prop) → Prop
  | [], _, k => k []
  | t :: ts, s, k => (s.η t).force fun x => flatO ts s fun l => k ((t, x) :: l)
/-- Of a state some slots and objects are kept, the rest forgotten. -/
def keepK (c : Option (List Nat × List Nat)) (s : S) (k : S → Prop) : Prop :=
  match c with
  | none => k s
  | some (ts, os) => flatL ts s fun l => flatO os s fun o => okS l o = true ∧ k (S.of l o)

def vc (C : Cx) (cfg : Cfg) : Code → (Exit → S → Prop) → S → Prop
  | .skip, Q, s => Q .normal s
  | .region id ops draw, Q, s => keepK (cfg.kp id) s fun s => cond draw (match cfg.tr id with
    | none => Indep1 cfg.own (cfg.ps id) ops ∧ (((s.frzL (cfg.fz id)).nrm (cfg.ps id)).force fun s => vcOps C cfg.own (cfg.ps id) ops ops.toList (Q .normal) s)
    | some (b, t) => Tree1 cfg.own (cfg.ps id) ops b t ∧ (((s.frzL (cfg.fz id)).nrm (cfg.ps id)).force fun s => vcTr C cfg.own (cfg.ps id) ops t (Q .normal) s)) ((s.frzL (cfg.fz id)).force fun s => vcOps C cfg.own [] ops ops.toList (Q .normal) s)
  | .seq a b, Q, s => vc C cfg a (fun e s => match e with | .normal => vc C cfg b Q s | e => Q e s) s
  | .cond c a b, Q, s => match s.ev c with
    | .p (.bool t) => Bool.rec (motive := fun _ => Prop) (vc C cfg b Q s) (vc C cfg a Q s) t
    | .nilQ L => (L = [] → vc C cfg a Q s) ∧ vc C cfg b Q s
    | _ => False
  | .block id c, Q, s => vc C cfg c (fun e s => match e with | .exit id' => cond (Nat.beq id' id) (Q .normal s) (Q (.exit id') s) | e => Q e s) s
  | .loop c, Q, s => ∃ (ι : Type) (σ : ι → S) (μ : ι → Nat) (i0 : ι), Ge s (σ i0) ∧ ∀ i, vc C cfg c (fun e s' => match e with | .normal => ∃ i', Ge s' (σ i') ∧ μ i' < μ i | e => Q e s') (σ i)
  | .exit id, Q, s => Q (.exit id) s
  | .ret, Q, s => Q .ret s
  | _, _, _ => False

/-! ### In a world -/
/-- Which of the old blocks may be written; where the objects lay at first. -/
structure Fm where
  m : Nat → Prop
  β : Nat → Value
/-- What may be written. -/
def may (F : Fm) (w0 : World) (b : Nat) : Prop := F.m b ∨ w0.heap.size ≤ b
/-- All but what may be written is as it was. -/
structure Keep (F : Fm) (w0 w : World) : Prop where
  os : w.os = w0.os
  tape : w.tape = w0.tape
  output : w.output = w0.output
  size : w0.heap.size ≤ w.heap.size
  block : ∀ b, b < w0.heap.size → ¬ F.m b → w.heap[b]? = w0.heap[b]?
structure StO (C : Cx) (n : Nat) (F : Fm) (ok0 : Nat → Prop) (w0 : World) (ok : Nat → Prop) (β : Nat → Value) (s : S) (a : Act) (w : World) : Prop where
  lt : ∀ b, ok b → b < w.heap.size
  new : ∀ b, ok b → ok0 b ∨ may F w0 b
  old : ∀ b, ok0 b → ok b
  gx : GX C ok w
  defers : a.defers = []
  size : a.tmps.size = n
  ρ : ∀ t, R ok β w (s.ρ t) (a.tmps.getD t undef)
  η : ∀ κ, OB C ok β w (may F w0) κ (s.η κ)
  ro : ∀ κ t x b, s.η κ = .var false t x → blockOf (β κ) = some b → ¬ may F w0 b
  dis : ∀ κ κ' b, (s.η κ).mine = true → (s.η κ').mine = true → blockOf (β κ) = some b → blockOf (β κ') = some b → κ = κ'
  wf : WF s
  below : Keep F w0 w
  n2 : n ≤ 2000
  pin : ∀ κ, 2000 ≤ κ → β κ = F.β κ
def St (C : Cx) (n : Nat) (F : Fm) (ok0 : Nat → Prop) (w0 : World) (s : S) (a : Act) (w : World) : Prop := ∃ ok β, StO C n F ok0 w0 ok β s a w

theorem eval_put {a : Act} {d t : Nat} {v : Value} (hd : d < a.tmps.size) : (a.put (some d) v).tmps.getD t undef = if t = d then v else a.tmps.getD t undef := by
  simp only [Act.put, Array.getD_eq_getD_getElem?]
  rw [Array.getElem?_setIfInBounds]
  by_cases h : t = d
  · subst h; simp [hd]
  · rw [if_neg (by omega), if_neg h]
theorem beq_ite {α : Type} (t d : Nat) (x y : α) : cond (Nat.beq t d) x y = if t = d then x else y := by
  by_cases h : t = d
  · subst h; simp
  · have : Nat.beq t d = false := by rw [← Bool.not_eq_true, Nat.beq_eq]; exact h
    rw [this, if_neg h]; rfl
theorem S.put_ρ (s : S) (d : Nat) (x : SV) (t : Nat) : (s.put d x).ρ t = if t = d then x else s.ρ t := beq_ite t d x _
theorem S.set_η (s : S) (κ : Nat) (o : AO) (t : Nat) : (s.set κ o).η t = if t = κ then o else s.η t := beq_ite t κ o _

section
variable {C : Cx} {n : Nat} {F : Fm} {ok0 : Nat → Prop} {w0 : World} {ok : Nat → Prop} {β : Nat → Value} {s : S} {a : Act} {w : World}
theorem WF.put (h : WF s) {d : Nat} {x : SV} (hx : ∀ κ ∈ x.keys, (s.η κ).live = true) : WF (s.put d x) :=
  ⟨fun t κ hk => by
    rw [S.put_ρ] at hk
    split at hk
    · exact hx κ hk
    · exact h.ρ t κ hk, h.η⟩
/-- A slot written: the world as it was. -/
theorem StO.put (h : StO C n F ok0 w0 ok β s a w) {d : Nat} (hd : d < n) {x : SV} {v : Value} (hr : R ok β w x v) (hk : ∀ κ ∈ x.keys, (s.η κ).live = true) :
    StO C n F ok0 w0 ok β (s.put d x) (a.put (some d) v) w :=
  { h with
    defers := h.defers
    size := by simp [Act.put, h.size]
    ρ := fun t => by
      rw [S.put_ρ, eval_put (by rw [h.size]; exact hd)]
      split
      · exact hr
      · exact h.ρ t
    wf := h.wf.put hk }
theorem wp_value {P : Program} {o : Oper} {next : Act → World → Prop} {Q : Exit → Act → World → Prop} {v : Value} {w' : World}
    (hr : (execOp a.eval o).run P w = .ok (.value v) w') (h : next (a.put o.dst v) w') : o.wp P a w next Q := by
  unfold Oper.wp
  rw [hr]
  exact h
theorem wp_skip {P : Program} {o : Oper} {next : Act → World → Prop} {Q : Exit → Act → World → Prop} {w' : World}
    (hr : (execOp a.eval o).run P w = .ok .skip w') (h : next (a.put o.dst undef) w') : o.wp P a w next Q := by
  unfold Oper.wp
  rw [hr]
  exact h
theorem cv0_R {v : Value} (h : one v) : RP ok w (cv0 v) v := by
  unfold cv0
  split <;> simp_all [RP]
theorem cv_R (v : Value) : R ok β w (cv v) v := by
  unfold cv
  split
  · rename_i cs
    cases hall : cs.toList.all Value.oneCell' with
    | false => trivial
    | true =>
      show R ok β w (.p (.agg (cs.toList.map cv0))) _
      rw [R, RP]
      refine ⟨cs.toList, by simp, fun u hu => List.all_eq_true.1 hall u hu, ?_⟩
      have key : ∀ l : List Value, (l.all Value.oneCell' = true) → RPL ok w (l.map cv0) l := by
        intro l
        induction l with
        | nil => intro _; trivial
        | cons u l ih =>
          intro hl
          simp only [List.all_cons, Bool.and_eq_true] at hl
          exact ⟨cv0_R hl.1, ih hl.2⟩
      exact key _ hall
  · trivial
  · rename_i h1 h2
    rw [R]
    refine cv0_R ?_
    cases v <;> first | rfl | (exact absurd rfl (h1 _)) | (exact absurd rfl (h2 _))
theorem ev_R (h : StO C n F ok0 w0 ok β s a w) (x : Operand) : R ok β w (s.ev x) (a.eval x) := by
  cases x with
  | tmp t => exact h.ρ t
  | const v => exact cv_R v
  | global g => show R ok β w (.glob g) _; rw [R]; rfl
  | func f => show R ok β w (.fn f []) _; rw [R]; exact ⟨[], rfl, trivial⟩
end
end Go.Vc
