/- A calculus of verification conditions, part 1: the state of a walk as plain data; what each operation asks and leaves. -/
import Derived.Test.YtcdbgkcijelopaaDoorVc0
set_option linter.unusedVariables false
namespace Go.Vc
open Go Go.RowKit

/-- What is known of a type. k: 1 struct, 2 slice, 3 array, 4 string, 5 int, 6 bool, 0 other. -/
structure TI where
  k : Nat
  agg : Bool
  sz : Nat
  bytes : Nat
  zero : PV
  flds : List (Nat × Nat)
  elem : Nat
  alen : Nat
/-- A program, its types, its tables, what else holds of the package's variables. -/
structure Cx where
  P : Program
  T : Nat → Option TI
  tab : Nat → Option (List PV)
  X : (Nat → Prop) → World → Prop
structure S where
  ρ : Nat → SV
  η : Nat → AO
/-- What an operation leaves: its value; a new object, under the slot's own number; another object as it stands now. -/
structure U where
  x : SV
  obj : Option AO := none
  st : Option (Nat × AO) := none
  kill : Option Nat := none
mutual
/-- Does it name the object? -/
def SV.men (κ : Nat) : SV → Bool
  | .ptr κ' _ => Nat.beq κ' κ
  | .slc κ' => Nat.beq κ' κ
  | .rowE κ' _ _ => Nat.beq κ' κ
  | .fn _ caps => SV.menL κ caps
  | .mix cs => SV.menL κ cs
  | .tupS cs => SV.menL κ cs
  | .no | .p _ | .elt _ | .eltF _ _ | .glob _ | .nilQ _ => false
def SV.menL (κ : Nat) : List SV → Bool
  | [] => false
  | x :: xs => x.men κ || SV.menL κ xs
end
def SV.purge (κ : Nat) : SV → SV
  | .mix cs => .mix (cs.map fun x => cond (x.men κ) .no x)
  | x => cond (x.men κ) .no x
def AO.purge (κ : Nat) : AO → AO
  | .var own t x => .var own t (x.purge κ)
  | o => o
def S.put (s : S) (d : Nat) (x : SV) : S := match s with | ⟨ρ, η⟩ => ⟨fun t => cond (Nat.beq t d) x (ρ t), η⟩
def S.set (s : S) (κ : Nat) (o : AO) : S := match s with | ⟨ρ, η⟩ => ⟨ρ, fun t => cond (Nat.beq t κ) o (η t)⟩
def S.kill (s : S) (κ : Nat) : S := match s with | ⟨ρ, η⟩ => ⟨fun t => (ρ t).purge κ, fun t => cond (Nat.beq t κ) .no ((η t).purge κ)⟩
def S.app (s : S) (dst : Option Nat) (u : U) : S :=
  let s := match u.kill with | some κ => s.kill κ | none => s
  let s := match u.st with | some (κ, o) => s.set κ o | none => s
  match dst with
  | none => s
  | some d => match u.obj with
    | some o => (s.set d o).put d u.x
    | none => s.put d u.x

def cv0 : Value → PV
  | .int k n => .int k n
  | .bool b => .bool b
  | .string s => .str s.data.toList
  | .slice none 0 0 => .nilS
  | v => .exact v
def cv : Value → SV
  | .agg cs => cond (cs.toList.all Value.oneCell') (.p (.agg (cs.toList.map cv0))) .no
  | .tuple _ => .no
  | v => .p (cv0 v)
def S.ev (s : S) : Operand → SV
  | .tmp t => s.ρ t
  | .const v => cv v
  | .global g => .glob g
  | .func f => .fn f []

def SV.shape : SV → Option (Bool × Nat)
  | .p x => some x.shape
  | .mix cs => some (true, cs.length)
  | .no | .tupS _ => none
  | _ => some (false, 1)
def SV.cells : SV → Option (List SV)
  | .p (.agg cs) => some (cs.map .p)
  | .mix cs => some cs
  | .no | .tupS _ => none
  | x => some [x]
def allP : List SV → Option (List PV)
  | [] => some []
  | .p x :: r => (allP r).map (x :: ·)
  | _ :: _ => none
def ofCells (l : List SV) : SV :=
  match allP l with
  | some ps => .p (.agg ps)
  | none => .mix l

/-- What every value of the one is is one of the other, too. -/
def LE (x y : SV) : Prop := ∀ ok β w v, R ok β w x v → R ok β w y v
theorem LE.refl (x : SV) : LE x x := fun _ _ _ _ h => h
def LEL : List SV → List SV → Prop
  | [], [] => True
  | x :: xs, y :: ys => LE x y ∧ LEL xs ys
  | _, _ => False

/-- The own objects of a world. -/
def RRow (ok : Nat → Prop) (w : World) (sz : Nat) (L : List PV) (xs : List Value) : Prop :=
  xs.length = L.length * sz ∧ ∀ i x, L[i]? = some x → ∃ c, RP ok w x c ∧ c.cells.toList = (xs.drop (i * sz)).take sz
def OB (C : Cx) (ok : Nat → Prop) (β : Nat → Value) (w : World) (M : Nat → Prop) (κ : Nat) : AO → Prop
  | .no => True
  | .var own t x => ∃ b v, β κ = .pointer (some ⟨b, 0, none⟩) ∧ w.heap[b]? = some (.cells v.cells t (0, 0)) ∧ R ok β w x v ∧ ¬ ok b ∧ (own = true → M b) ∧
      (∀ u ∈ v.cells.toList, one u) ∧ ∀ ti, C.T t = some ti → v.cells.size = ti.sz ∧ (ti.agg = true → v = .agg v.cells) ∧ (ti.agg = false → one v)
  | .mp t sk L => ∃ r es clock, β κ = .map (some r) ∧ w.heap[r]? = some (.map es clock) ∧ ¬ ok r ∧ M r ∧ es.toList.map (·.key) = L.map (fun x => x.1.val) ∧ RPL ok w (L.map (·.2)) (es.toList.map (·.val)) ∧ (∀ x ∈ L, x.1.isS = sk)
  | .row t sz L => 0 < sz ∧ (∃ xs, w.ownsRow 0 t sz (β κ) L.length xs ∧ RRow ok w sz L xs) ∧ ∀ k, (β κ).ownBlock = some k → ¬ ok k ∧ M k
def blockOf : Value → Option Nat
  | .pointer (some a) => some a.block
  | .slice (some a) _ _ => some a.block
  | .map (some r) => some r
  | _ => none

/-- A result: plain data; a new row that is the caller's; several. -/
inductive Res where
  | pv (x : PV)
  | fresh (t sz : Nat) (L : List PV)
  | tup (xs : List PV)
def RES (ok : Nat → Prop) (w w' : World) : Res → Value → Prop
  | .pv x, v => RP (fun b => ok b ∨ w.heap.size ≤ b ∧ b < w'.heap.size) w' x v
  | .fresh t sz L, v => 0 < sz ∧ ∃ xs, w'.ownsRow w.heap.size t sz v L.length xs ∧ RRow (fun b => (ok b ∨ w.heap.size ≤ b ∧ b < w'.heap.size) ∧ v.ownBlock ≠ some b) w' sz L xs
  | .tup xs, v => ∃ vs, v = .tuple vs.toArray ∧ RPL (fun b => ok b ∨ w.heap.size ≤ b ∧ b < w'.heap.size) w' xs vs
/-- What holds of the package's variables. -/
def GX (C : Cx) (ok : Nat → Prop) (w : World) : Prop := C.X ok w ∧ ∀ g L, C.tab g = some L → ∃ sz, RPE ok w sz L (some ⟨g, 0, none⟩) 0
def FnOk (P : Program) (f : FuncId) : Prop := ∃ fn, P.funcs[f]? = some fn ∧ (fn.name == "runtime.NumGoroutine") = false ∧ fn.body.isNone = false
def AO.mine : AO → Bool
  | .var own _ _ => own
  | .row .. => true
  | .mp .. => true
  | .no => false
/-- A CONTRACT: called with such arguments (and such objects, which are only read) f comes back with this; of what there was nothing has turned. -/
structure PC (C : Cx) (f : FuncId) (ηi : Nat → AO) (args : List SV) (r : Res) : Prop where
  fn : FnOk C.P f
  run : ∀ (ok : Nat → Prop) (β : Nat → Value) (w : World) (vs : List Value), GX C ok w → (∀ b, ok b → b < w.heap.size) → RL ok β w args vs →
    (∀ κ, OB C ok β w (fun b => w.heap.size ≤ b) κ (ηi κ)) → (∀ κ ∈ SV.keysL args, (ηi κ).live = true) → (∀ κ κ', κ' ∈ (ηi κ).keys → (ηi κ').live = true) → (∀ κ, (ηi κ).mine = false) →
    Calls C.P f vs.toArray w fun e w' => ∃ v, e = .returned v ∧ RES ok w w' r v ∧ Below w.heap.size w w'
mutual
/-- The objects named anew. -/
def SV.ren (g : Nat → Nat) : SV → SV
  | .ptr κ off => .ptr (g κ) off
  | .slc κ => .slc (g κ)
  | .rowE κ sz i => .rowE (g κ) sz i
  | .fn f caps => .fn f (SV.renL g caps)
  | .mix cs => .mix (SV.renL g cs)
  | .tupS cs => .tupS (SV.renL g cs)
  | x => x
def SV.renL (g : Nat → Nat) : List SV → List SV
  | [] => []
  | x :: xs => x.ren g :: SV.renL g xs
end
def AO.ren (g : Nat → Nat) : AO → AO
  | .var own t x => .var own t (x.ren g)
  | o => o
def look : List (Nat × SV) → Nat → SV
  | [], _ => .no
  | (k, x) :: r, t => cond (Nat.beq t k) x (look r t)
def lookO : List (Nat × AO) → Nat → AO
  | [], _ => .no
  | (k, x) :: r, t => cond (Nat.beq t k) x (lookO r t)
/-- The blocks that may be written of what comes in. -/
def mblk (I : List (Nat × AO)) (β : Nat → Value) (b : Nat) : Prop := ∃ κ, (lookO I κ).mine = true ∧ blockOf (β κ) = some b
/-- Do the objects that come in, the arguments, the objects that come out and the result hang together? -/
def okM (I : List (Nat × AO)) (args : List SV) (O : List (Nat × AO)) (x : SV) : Bool :=
  let li := fun κ => (lookO I κ).live
  let lo := fun κ => (lookO O κ).live || ((lookO I κ).live && !(lookO I κ).mine)
  (SV.keysL args).all li && I.all (fun y => y.2.live && y.2.keys.all li && (y.2.mine && (lookO O y.1).live || Nat.ble 2000 y.1)) && O.all (fun y => y.2.mine && y.2.keys.all lo) && x.keys.all lo &&
    I.all (fun y => !y.2.mine || (lookO O y.1).live)
/-- All but such blocks are as they were. -/
structure KeepB (M : Nat → Prop) (w w' : World) : Prop where
  os : w'.os = w.os
  tape : w'.tape = w.tape
  output : w'.output = w.output
  size : w.heap.size ≤ w'.heap.size
  block : ∀ b, b < w.heap.size → ¬ M b → w'.heap[b]? = w.heap[b]?
/-- How a call leaves the objects. -/
structure MRes (C : Cx) (I O : List (Nat × AO)) (x : SV) (ok : Nat → Prop) (β : Nat → Value) (w : World) (ok' : Nat → Prop) (β' : Nat → Value) (w' : World) (v : Value) : Prop where
  ok1 : ∀ b, ok b → ok' b
  ok2 : ∀ b, ok' b → b < w'.heap.size
  ok3 : ∀ b, ok' b → ok b ∨ mblk I β b ∨ w.heap.size ≤ b
  val : R ok' β' w' x v
  obs : ∀ κ, OB C ok' β' w' (fun b => mblk I β b ∨ w.heap.size ≤ b) κ (lookO O κ)
  dis : ∀ κ κ' b, (lookO O κ).live = true → (lookO O κ').live = true → blockOf (β' κ) = some b → blockOf (β' κ') = some b → κ = κ'
  pin : ∀ κ, 2000 ≤ κ → (lookO I κ).live = true → β' κ = β κ
  keep : KeepB (mblk I β) w w'
/-- A CONTRACT of a function that writes to objects that are handed in (I), or makes new ones (O: how all stand behind it). -/
structure PM (C : Cx) (f : FuncId) (I : List (Nat × AO)) (args : List SV) (O : List (Nat × AO)) (x : SV) : Prop where
  fn : FnOk C.P f
  st : okM I args O x = true
  run : ∀ (ok : Nat → Prop) (β : Nat → Value) (w : World) (vs : List Value), GX C ok w → (∀ b, ok b → b < w.heap.size) → RL ok β w args vs → (∀ κ, OB C ok β w (fun _ => True) κ (lookO I κ)) →
    (∀ κ κ' b, (lookO I κ).mine = true → (lookO I κ').live = true → blockOf (β κ) = some b → blockOf (β κ') = some b → κ = κ') →
    Calls C.P f vs.toArray w fun e w' => ∃ v β' ok', e = .returned v ∧ MRes C I O x ok β w ok' β' w' v
def S.killL (s : S) : List Nat → S
  | [] => s
  | κ :: r => (s.kill κ).killL r
def overO (g : Nat → Nat) : List (Nat × AO) → (Nat → AO) → Nat → AO
  | [], e, k => e k
  | (κ, o) :: r, e, k => cond (Nat.beq k (g κ)) (o.ren g) (overO g r e k)
/-- The objects that may move. -/
def movers (g : Nat → Nat) (I : List (Nat × AO)) : List Nat := (I.filter fun y => Nat.blt y.1 2000).map fun y => g y.1
def mAfter (s : S) (g : Nat → Nat) (I O : List (Nat × AO)) (d : Nat) (x : SV) : S :=
  match s.killL (movers g I) with
  | ⟨ρ, η⟩ => ⟨fun t => cond (Nat.beq t d) (x.ren g) (ρ t), overO g O η⟩
/-- Is an object handed in as it stands, or to be read alone? -/
def OLM (a b : AO) : Prop := b = .no ∨ a = b ∨ (∃ own t x y, a = .var own t x ∧ b = .var own t y ∧ LE x y) ∨ (∃ t x y, a = .var true t x ∧ b = .var false t y ∧ LE x y)
/-- What a call asks that writes to objects. -/
structure MCallVC (C : Cx) (s : S) (f : FuncId) (args : List SV) (d : Nat) (s' : S) : Prop where mk ::
  out : ∃ (I : List (Nat × AO)) (args0 : List SV) (O : List (Nat × AO)) (x : SV) (g : Nat → Nat), PM C f I args0 O x ∧ LEL args (SV.renL g args0) ∧ (∀ κ, OLM (s.η (g κ)) ((lookO I κ).ren g)) ∧
    (∀ κ κ', ((lookO I κ).live || (lookO O κ).live) = true → ((lookO I κ').live || (lookO O κ').live) = true → g κ = g κ' → κ = κ') ∧
    (∀ κ, (lookO O κ).live = true → (lookO I κ).live = false → (s.η (g κ)).live = false ∧ g κ < 2000) ∧ (∀ κ, (lookO I κ).live = true → κ < 2000 → g κ < 2000) ∧ s' = mAfter s g I O d x
def isMut (own : Nat → Bool) (o : Oper) : Bool :=
  match o.op, o.dst with
  | .call c, some d => match c.callee with
    | .value _ => own (d + 100000)
    | _ => false
  | _, _ => false
/-- What a call sees of an argument: of a row of one's own a list. -/
def view (η : Nat → AO) : SV → SV
  | .slc κ => match η κ with
    | .row _ _ L => .p (.lst L)
    | _ => .slc κ
  | x => x
def Res.scalar : Res → Bool
  | .pv (.int _ _) | .pv (.bool _) | .pv (.str _) => true
  | _ => false
def noSlc : SV → Bool
  | .slc _ => false
  | _ => true
def AO.ro : AO → AO
  | .var _ t x => .var false t x
  | _ => .no
/-- The objects that one comes to. -/
inductive Reach (η : Nat → AO) (l : List Nat) : Nat → Prop where
  | base {κ : Nat} : κ ∈ l → Reach η l κ
  | step {κ κ' : Nat} : Reach η l κ → κ' ∈ (η κ).keys → Reach η l κ'
/-- What a call of f with such arguments asks. -/
structure CallVC (C : Cx) (η : Nat → AO) (f : FuncId) (args vargs : List SV) (r : Res) : Prop where mk ::
  out : ∃ (ηc : Nat → AO) (args' : List SV), LEL vargs args' ∧ PC C f ηc args' r ∧ (∀ κ, ηc κ = .no ∨ Reach η (SV.keysL args) κ ∧ ηc κ = (η κ).ro) ∧ (∀ κ ∈ SV.keysL args', (ηc κ).live = true) ∧
    (∀ κ κ', κ' ∈ (ηc κ).keys → (ηc κ').live = true) ∧ (r.scalar = true ∨ ∀ x ∈ args, noSlc x = true)
def Res.u (own : Bool) (d : Nat) : Res → U
  | .pv x => { x := .p x }
  | .fresh t sz L => cond own { x := .slc d, obj := some (.row t sz L) } { x := .p (.lst L) }
  | .tup xs => { x := .tupS (xs.map .p) }

/-- x[lo:hi] of a list or a text. -/
def cut {α : Type} (L : List α) (lo hi : Nat) : List α := (L.drop lo).take (hi - lo)
def bnd (ev : Operand → SV) (dflt : Nat) : Option Operand → (Nat → Prop) → Prop
  | none, k => k dflt
  | some x, k => match ev x with
    | .p (.int _ n) => 0 ≤ n ∧ k n.toNat
    | _ => False

def okK (op : BinOp) (j j' : IntKind) : Bool :=
  match op with
  | .shl | .shr => true
  | _ => decide (j = j')
def intBin (op : BinOp) (k : IntKind) (a b : Int) (K : PV → Prop) : Prop :=
  match op with
  | .add => ∃ r, k.wrap (a + b) = r ∧ K (.int k r)
  | .sub => ∃ r, k.wrap (a - b) = r ∧ K (.int k r)
  | .mul => ∃ r, k.wrap (a * b) = r ∧ K (.int k r)
  | .eql => K (.bool (decide (a = b)))
  | .neq => K (.bool (decide (a ≠ b)))
  | .lss => K (.bool (decide (a < b)))
  | .leq => K (.bool (decide (a ≤ b)))
  | .gtr => K (.bool (decide (b < a)))
  | .geq => K (.bool (decide (b ≤ a)))
  | .quo => b ≠ 0 ∧ ∃ r, k.wrap (a.tdiv b) = r ∧ K (.int k r)
  | .rem => b ≠ 0 ∧ ∃ r, a.tmod b = r ∧ K (.int k r)
  | .shl => 0 ≤ b ∧ ∃ r, k.wrap (a * 2 ^ (min b.toNat k.bits)) = r ∧ K (.int k r)
  | .shr => 0 ≤ b ∧ ∃ r, a.fdiv (2 ^ (min b.toNat k.bits)) = r ∧ K (.int k r)
  | .and => ∃ r, k.wrap (BitVec.ofInt k.bits a &&& BitVec.ofInt k.bits b).toNat = r ∧ K (.int k r)
  | .or => ∃ r, k.wrap (BitVec.ofInt k.bits a ||| BitVec.ofInt k.bits b).toNat = r ∧ K (.int k r)
  | .xor => ∃ r, k.wrap (BitVec.ofInt k.bits a ^^^ BitVec.ofInt k.bits b).toNat = r ∧ K (.int k r)
  | _ => False
def strBin (op : BinOp) (a b : List UInt8) (K : PV → Prop) : Prop :=
  match op with
  | .add => a.length + b.length ≤ 9223372036854775807 ∧ K (.str (a ++ b))
  | .eql => K (.bool (decide (a = b)))
  | .neq => K (.bool (decide (a ≠ b)))
  | .lss => K (.bool (Op.bytesLess a b))
  | _ => False

def fillS (flds : List (Nat × Nat)) : List SV → List (Nat × SV) → Option (List SV)
  | cs, [] => some cs
  | cs, (i, x) :: r => match flds[i]? with
    | some (off, 1) => cond (Nat.blt off cs.length) (fillS flds (cs.set off x) r) none
    | _ => none
def partsIn (ev : Operand → SV) : Nat → List (Nat × Operand) → Option (List PV)
  | _, [] => some []
  | n, (i, x) :: r => cond (Nat.beq i n) (match ev x with
    | .p y => (partsIn ev (n + 1) r).map (y :: ·)
    | _ => none) none
def allSz (sh : Bool × Nat) : List PV → Prop
  | [] => True
  | y :: ys => y.shape = sh ∧ allSz sh ys
def oneCells : List (Nat × SV) → Prop
  | [] => True
  | x :: xs => x.2.shape = some (false, 1) ∧ oneCells xs

/-- A load out of what a variable of type t' holds. -/
def ldVC (ti : TI) (t t' : Nat) (y : SV) (off : Nat) (k : SV → Prop) : Prop :=
  cond (Nat.beq t t' && Nat.beq off 0) (k y) (match y.cells with
    | none => False
    | some cs => cond ti.agg (off + ti.sz ≤ cs.length ∧ k (ofCells ((cs.drop off).take ti.sz))) (match cs[off]? with
      | some z => k z
      | none => False))
def lstOf : SV → Option (List PV)
  | .p (.lst L) => some L
  | .p .nilS => some []
  | _ => none
/-- Reckoned out, as far as one looks. -/
def PV.force1 (x : PV) (k : PV → Prop) : Prop :=
  match x with
  | .int a n => k (.int a n)
  | .bool b => k (.bool b)
  | .str l => k (.str l)
  | .exact v => k (.exact v)
  | .nilS => k .nilS
  | .agg cs => k (.agg cs)
  | .lst L => k (.lst L)
def PV.forceL : List PV → (List PV → Prop) → Prop
  | [], k => k []
  | x :: xs, k => x.force1 fun x => PV.forceL xs fun xs => k (x :: xs)
def PV.force (x : PV) (k : PV → Prop) : Prop :=
  match x with
  | .int a n => k (.int a n)
  | .bool b => k (.bool b)
  | .str l => k (.str l)
  | .exact v => k (.exact v)
  | .nilS => k .nilS
  | .agg cs => PV.forceL cs fun cs => k (.agg cs)
  | .lst L => k (.lst L)
def SV.force1 (x : SV) (k : SV → Prop) : Prop :=
  match x with
  | .no => k .no
  | .p y => y.force fun y => k (.p y)
  | .elt y => y.force fun y => k (.elt y)
  | .eltF y f => y.force fun y => k (.eltF y f)
  | .rowE κ sz i => k (.rowE κ sz i)
  | .ptr κ off => k (.ptr κ off)
  | .slc κ => k (.slc κ)
  | .fn f caps => k (.fn f caps)
  | .mix cs => k (.mix cs)
  | .tupS cs => k (.tupS cs)
  | .glob g => k (.glob g)
  | .nilQ L => k (.nilQ L)
def SV.forceL : List SV → (List SV → Prop) → Prop
  | [], k => k []
  | x :: xs, k => x.force1 fun x => SV.forceL xs fun xs => k (x :: xs)
def SV.force (x : SV) (k : SV → Prop) : Prop :=
  match x with
  | .no => k .no
  | .p y => y.force fun y => k (.p y)
  | .elt y => y.force fun y => k (.elt y)
  | .eltF y f => y.force fun y => k (.eltF y f)
  | .rowE κ sz i => k (.rowE κ sz i)
  | .ptr κ off => k (.ptr κ off)
  | .slc κ => k (.slc κ)
  | .fn f caps => SV.forceL caps fun caps => k (.fn f caps)
  | .mix cs => SV.forceL cs fun cs => k (.mix cs)
  | .tupS cs => SV.forceL cs fun cs => k (.tupS cs)
  | .glob g => k (.glob g)
  | .nilQ L => k (.nilQ L)
def AO.force (o : AO) (k : AO → Prop) : Prop :=
  match o with
  | .no => k .no
  | .var own t x => x.force fun x => k (.var own t x)
  | .row t sz L => k (.row t sz L)
  | .mp t sk L => k (.mp t sk L)
def U.force (u : U) (k : U → Prop) : Prop :=
  match u with
  | ⟨x, obj, st, kill⟩ => x.force fun x => match obj, st with
    | none, none => k ⟨x, none, none, kill⟩
    | some o, none => o.force fun o => k ⟨x, some o, none, kill⟩
    | none, some (κ, o) => o.force fun o => k ⟨x, none, some (κ, o), kill⟩
    | some o, some z => k ⟨x, some o, some z, kill⟩
def S.force (s : S) (k : S → Prop) : Prop :=
  match s with
  | ⟨ρ, η⟩ => k ⟨ρ, η⟩
theorem PV.force1_eq (x : PV) (k : PV → Prop) : x.force1 k = k x := by cases x <;> rfl
theorem PV.forceL_eq : ∀ (x : List PV) (k : List PV → Prop), PV.forceL x k = k x
  | [], k => rfl
  | x :: xs, k => by simp only [PV.forceL, PV.force1_eq, PV.forceL_eq xs]
theorem PV.force_eq (x : PV) (k : PV → Prop) : x.force k = k x := by cases x <;> simp only [PV.force, PV.forceL_eq]
theorem SV.force1_eq (x : SV) (k : SV → Prop) : x.force1 k = k x := by cases x <;> simp only [SV.force1, PV.force_eq]
theorem SV.forceL_eq : ∀ (x : List SV) (k : List SV → Prop), SV.forceL x k = k x
  | [], k => rfl
  | x :: xs, k => by simp only [SV.forceL, SV.force1_eq, SV.forceL_eq xs]
theorem SV.force_eq (x : SV) (k : SV → Prop) : x.force k = k x := by cases x <;> simp only [SV.force, PV.force_eq, SV.forceL_eq]
theorem AO.force_eq (x : AO) (k : AO → Prop) : x.force k = k x := by cases x <;> simp only [AO.force, SV.force_eq]
theorem U.force_eq (u : U) (k : U → Prop) : u.force k = k u := by
  obtain ⟨x, obj, st, kill⟩ := u
  simp only [U.force]
  rw [SV.force_eq]
  cases obj <;> cases st <;> simp only [AO.force_eq]
theorem S.force_eq (s : S) (k : S → Prop) : s.force k = k s := rfl
def bytesL (l : List UInt8) : List PV := l.map fun c => .int .u8 c.toNat
def isU8 : Option TI → Bool
  | some te => match te.zero with
    | .int .u8 _ => Nat.beq te.k 5
    | _ => false
  | none => false
def ownNil (own : Nat → Bool) : Option Nat → SV → Bool
  | some d, .p .nilS => own d
  | _, _ => false
/-- A slot is written; nil that is one's own is a row of nothing. -/
def mvVC (C : Cx) (own : Nat → Bool) (dst : Option Nat) (t : Nat) (η : Nat → AO) (x : SV) (k : U → Prop) : Prop :=
  cond (ownNil own dst x) (match dst, C.T t with
    | some d, some ti => match η d, C.T ti.elem with
      | .no, some te => 0 < te.sz ∧ k { x := .slc d, obj := some (.row ti.elem te.sz []) }
      | _, _ => False
    | _, _ => False) (k { x := x })
/-- What an operation asks, and what it leaves. -/
def VC (C : Cx) (own : Nat → Bool) (o : Oper) (ev : Operand → SV) (η : Nat → AO) (k : U → Prop) : Prop :=
  match o.op with
  | .move x => mvVC C own o.dst o.type η (ev x) k
  | .assign x => mvVC C own o.dst o.type η (ev x) k
  | .pick c a b => match ev c with
    | .p (.bool t) => Bool.rec (motive := fun _ => Prop) (k { x := ev b }) (k { x := ev a }) t
    | _ => False
  | .alloc t => match o.dst, C.T t with
    | some d, some ti => match η d with
      | .no => k { x := .ptr d 0, obj := some (.var true t (.p ti.zero)) }
      | _ => False
    | _, _ => False
  | .box t x => match o.dst, C.T t with
    | some d, some ti => match η d with
      | .no => (ev x).shape = some (ti.agg, ti.sz) ∧ k { x := .ptr d 0, obj := some (.var true t (ev x)) }
      | _ => False
    | _, _ => False
  | .load t x => match C.T t with
    | none => False
    | some ti => match ev x with
      | .ptr κ off => match η κ with
        | .var _ t' y => ldVC ti t t' y off fun z => k { x := z }
        | _ => False
      | .elt y => y.shape = (ti.agg, ti.sz) ∧ k { x := .p y }
      | .eltF y f => match y with
        | .agg cs => cond ti.agg (f + ti.sz ≤ cs.length ∧ k { x := .p (.agg ((cs.drop f).take ti.sz)) }) (match cs[f]? with
          | some z => k { x := .p z }
          | none => False)
        | _ => False
      | .rowE κ sz i => match η κ with
        | .row _ sz' L => ∃ y, L[i]? = some y ∧ sz = sz' ∧ sz = ti.sz ∧ y.shape = (ti.agg, ti.sz) ∧ k { x := .p y }
        | _ => False
      | _ => False
  | .store t a x => match o.dst, C.T t with
    | none, some ti => match ev a with
      | .ptr κ off => match η κ with
        | .var true t' y => (ev x).shape = some (ti.agg, ti.sz) ∧
            cond (Nat.beq t t' && Nat.beq off 0) (k { x := .no, st := some (κ, .var true t' (ev x)) }) (match y.cells, (ev x).cells with
              | some cs, some xs => off + xs.length ≤ cs.length ∧ (∃ ti', C.T t' = some ti' ∧ ti'.agg = true) ∧ k { x := .no, st := some (κ, .var true t' (ofCells (cs.take off ++ (xs ++ cs.drop (off + xs.length))))) }
              | _, _ => False)
        | _ => False
      | .rowE κ sz i => match η κ, ev x with
        | .row t' sz' L, .p y => i < L.length ∧ sz = sz' ∧ sz = ti.sz ∧ y.shape = (ti.agg, ti.sz) ∧ k { x := .no, st := some (κ, .row t' sz' (L.set i y)) }
        | _, _ => False
      | _ => False
    | _, _ => False
  | .nilCheck x => match ev x with
    | .ptr κ off => k { x := .ptr κ off }
    | _ => False
  | .binOp op t x y _ => match ev x, ev y with
    | .p (.int j a), .p (.int j' b) => okK op j j' = true ∧ intBin op j a b fun r => k { x := .p r }
    | .p (.str a), .p (.str b) => strBin op a b fun r => k { x := .p r }
    | .p (.bool a), .p (.bool b) => match C.T t, op with
      | some ti, .eql => ti.k = 6 ∧ k { x := .p (.bool (a == b)) }
      | some ti, .neq => ti.k = 6 ∧ k { x := .p (.bool (!(a == b))) }
      | _, _ => False
    | .p (.lst L), .p .nilS => match C.T t, op with
      | some ti, .eql => ti.k = 2 ∧ k { x := .nilQ L }
      | _, _ => False
    | _, _ => False
  | .unOp op _ x => match op, ev x with
    | .not, .p (.bool b) => k { x := .p (.bool (!b)) }
    | .neg, .p (.int j a) => ∃ r, j.wrap (0 - a) = r ∧ k { x := .p (.int j r) }
    | _, _ => False
  | .convert t t' x => match C.T t, C.T t' with
    | some ti, some ti' => match ev x with
      | .p (.int _ n) => match ti'.zero with
        | .int j _ => ti'.k = 5 ∧ ∃ r, j.wrap n = r ∧ k { x := .p (.int j r) }
        | _ => False
      | .p (.lst L) => ti.k = 2 ∧ ti'.k = 4 ∧ isU8 (C.T ti.elem) = true ∧ ∃ l : List UInt8, L = bytesL l ∧ k { x := .p (.str l) }
      | _ => False
    | _, _ => False
  | .makeFunc f first caps => match f, first.toList with
    | .func f, [] => k { x := .fn f (caps.toList.map ev) }
    | _, _ => False
  | .fieldAddr t x f => match C.T t with
    | none => False
    | some ti => match ti.flds[f]? with
      | some (off, n + 1) => ti.k = 1 ∧ match ev x with
        | .ptr κ o => k { x := .ptr κ (o + off) }
        | .elt y => k { x := .eltF y off }
        | .eltF y o => k { x := .eltF y (o + off) }
        | _ => False
      | _ => False
  | .indexAddr t x ix => match C.T t, ev ix with
    | some ti, .p (.int _ n) => match C.T ti.elem with
      | none => False
      | some te => match ev x with
        | .p (.lst L) => 0 ≤ n ∧ ∃ y, L[n.toNat]? = some y ∧ ti.k = 2 ∧ y.shape = (te.agg, te.sz) ∧ k { x := .elt y }
        | .glob g => match C.tab g with
          | some L => 0 ≤ n ∧ ∃ y, L[n.toNat]? = some y ∧ ti.k = 3 ∧ ti.alen = L.length ∧ y.shape = (te.agg, te.sz) ∧ k { x := .elt y }
          | none => False
        | .slc κ => match η κ with
          | .row _ sz L => 0 ≤ n ∧ n.toNat < L.length ∧ ti.k = 2 ∧ sz = te.sz ∧ k { x := .rowE κ sz n.toNat }
          | _ => False
        | _ => False
    | _, _ => False
  | .index t x ix => match C.T t, ev x, ev ix with
    | some ti, .p (.str l), .p (.int _ n) => ti.k = 4 ∧ 0 ≤ n ∧ ∃ c, l[n.toNat]? = some c ∧ k { x := .p (.int .u8 c.toNat) }
    | _, _, _ => False
  | .slice t x lo hi mx => match C.T t, ev x with
    | some ti, .p (.lst L) => ti.k = 2 ∧ (mx.isNone || hi.isSome) = true ∧ (∃ te, C.T ti.elem = some te ∧ allSz (te.agg, te.sz) L) ∧ bnd ev 0 lo fun lo => bnd ev L.length hi fun hi => bnd ev L.length mx fun mx => lo ≤ hi ∧ hi ≤ mx ∧ mx ≤ L.length ∧ k { x := .p (.lst (cut L lo hi)) }
    | some ti, .p (.str l) => ti.k = 4 ∧ mx.isNone = true ∧ bnd ev 0 lo fun lo => bnd ev l.length hi fun hi => lo ≤ hi ∧ hi ≤ l.length ∧ k { x := .p (.str (cut l lo hi)) }
    | _, _ => False
  | .extract x i => match ev x with
    | .tupS cs => match cs[i]? with
      | some y => k { x := y }
      | none => False
    | _ => False
  | .build t parts => match C.T t with
    | none => False
    | some ti => ti.k = 1 ∧ oneCells (parts.toList.map fun x => (x.1, ev x.2)) ∧ match (SV.p ti.zero).cells with
      | some cs => match fillS ti.flds cs (parts.toList.map fun x => (x.1, ev x.2)) with
        | some cs => k { x := ofCells cs }
        | none => False
      | none => False
  | .buildSlice t n parts => match o.dst, C.T t with
    | some d, some ti => match C.T ti.elem, partsIn ev 0 parts.toList with
      | some te, some L => ti.k = 2 ∧ n = L.length ∧ n * te.sz ≤ 16777216 ∧ 0 < te.sz ∧ allSz (te.agg, te.sz) L ∧ PV.forceL L fun L => cond (own d)
          (match η d with | .no => k { x := .slc d, obj := some (.row ti.elem te.sz L) } | _ => False) (k { x := .p (.lst L) })
      | _, _ => False
    | _, _ => False
  | .call c => match c.callee with
    | .value f => match o.dst with
      | none => False
      | some d => match ev f with
        | .fn f caps => SV.forceL (c.args.toList.map ev ++ caps) fun args => SV.forceL (args.map (view η)) fun vargs => ∃ r, CallVC C η f args vargs r ∧ (match η d with | .no => k (r.u (own d) d) | _ => False)
        | _ => False
    | .builtin .len => match c.args.toList, (c.argTypes[0]?).bind C.T with
      | [x], some ti => match ev x with
        | .p (.lst L) => ti.k = 2 ∧ k { x := .p (.int .i64 L.length) }
        | .p .nilS => ti.k = 2 ∧ k { x := .p (.int .i64 0) }
        | .p (.str l) => ti.k = 4 ∧ k { x := .p (.int .i64 l.length) }
        | .slc κ => match η κ with
          | .row _ _ L => ti.k = 2 ∧ k { x := .p (.int .i64 L.length) }
          | _ => False
        | _ => False
      | _, _ => False
    | .builtin .append => match o.dst, c.args.toList, c.argTypes.toList with
      | some d, [x, y], [t, t'] => cond (Nat.beq t t') (match C.T t with
        | some ti => match C.T ti.elem, lstOf (ev y) with
          | some te, some M => ti.k = 2 ∧ 0 < te.sz ∧ 0 < te.bytes ∧ allSz (te.agg, te.sz) M ∧
              (match ev x with
                | .p .nilS => match η d with
                  | .no => M.length * te.bytes ≤ 140737488355328 ∧ cond (own d) (k { x := .slc d, obj := some (.row ti.elem te.sz M) }) (k { x := .p (.lst M) })
                  | _ => False
                | .slc κ => match η κ with
                  | .row e sz L => Nat.blt κ 2000 = true ∧ e = ti.elem ∧ sz = te.sz ∧ (L.length + M.length) * te.bytes ≤ 140737488355328 ∧
                      cond (own d) (k { x := .slc κ, st := some (κ, .row e sz (L ++ M)), kill := some κ }) (k { x := .p (.lst (L ++ M)), kill := some κ })
                  | _ => False
                | _ => False)
          | _, _ => False
        | _ => False) False
      | _, _, _ => False
    | .builtin .max => match c.args.toList with
      | [x, y] => match ev x, ev y with
        | .p (.int .i64 a), .p (.int .i64 b) => k { x := .p (.int .i64 (max a b)) }
        | _, _ => False
      | [x, y, z] => match ev x, ev y, ev z with
        | .p (.int .i64 a), .p (.int .i64 b), .p (.int .i64 c) => k { x := .p (.int .i64 (max (max a b) c)) }
        | _, _, _ => False
      | _ => False
    | .builtin .min => match c.args.toList with
      | [x, y] => match ev x, ev y with
        | .p (.int .i64 a), .p (.int .i64 b) => k { x := .p (.int .i64 (min a b)) }
        | _, _ => False
      | _ => False
    | _ => False
  | _ => False
end Go.Vc
