/- The statement TopTickets, without a condition: a ticket of one KDC is none of another one's. Part 2: Wb. -/
import Derived.Test.YteicafhbhdliaaaGreatDoorPaa
import Derived.Laws.Strings
import Derived.Laws.Strings2
import Derived.Laws.Tables
import Derived.Laws.OwnMore
import Derived.Laws.CopyRow
import Derived.Laws.BytesString
import Derived.MapKept
import Derived.MapFrom
import Derived.Laws.RangeString
import Derived.Maps.RangeRun
set_option linter.unusedVariables false
namespace Go.Vc
open Go Go.RowKit
section
variable {C : Cx} {n : Nat} {F : Fm} {ok0 : Nat → Prop} {w0 : World} {ok : Nat → Prop} {β : Nat → Value} {s : S} {a : Act} {w : World} {own : Nat → Bool} {o : Oper} {k : U → Prop} {K : Act → World → Prop} {Q : Exit → Act → World → Prop}
theorem St_put (h : StO C n F ok0 w0 ok β s a w) (hd : ∀ d, o.dst = some d → d < n) {x : SV} {v : Value} (hr : R ok β w x v) (hk : ∀ κ ∈ x.keys, (s.η κ).live = true) : St C n F ok0 w0 (s.app o.dst { x := x }) (a.put o.dst v) w := by
 cases e : o.dst with
 | none => exact ⟨ok, β, h⟩
 | some d => exact ⟨ok, β, h.put (hd d e) hr hk⟩
theorem wp_read (h : StO C n F ok0 w0 ok β s a w) (hd : ∀ d, o.dst = some d → d < n) (hK : ∀ u a' w', k u → St C n F ok0 w0 (s.app o.dst u) a' w' → K a' w') {x : SV} {v : Value}
  (hrun : (execOp a.eval o).run C.P w = .ok (.value v) w) (hu : k { x := x }) (hr : R ok β w x v) (hk : ∀ κ ∈ x.keys, (s.η κ).live = true) : o.wp C.P a w K Q :=
 wp_value hrun (hK _ _ _ hu (St_put h hd hr hk))
theorem ev_keys (h : StO C n F ok0 w0 ok β s a w) (x : Operand) : ∀ κ ∈ (s.ev x).keys, (s.η κ).live = true := by
 cases x with
 | tmp t => exact h.wf.ρ t
 | const v =>
  intro κ hκ
  have : (cv v).keys = [] := by
   unfold cv
   split
   ·rename_i cs
    cases cs.toList.all Value.oneCell' <;> rfl
   ·rfl
   ·rfl
  rw [show s.ev (.const v) = cv v from rfl, this] at hκ
  cases hκ
 | global g => intro κ hκ; cases hκ
 | func f => intro κ hκ; cases hκ
theorem op_move {x : Operand} (ho : o.op = .move x ∨ o.op = .assign x) (h : StO C n F ok0 w0 ok β s a w) (hd : ∀ d, o.dst = some d → d < n) (hvc : k { x := s.ev x })
  (hK : ∀ u a' w', k u → St C n F ok0 w0 (s.app o.dst u) a' w' → K a' w') : o.wp C.P a w K Q := by
 rcases ho with ho | ho <;> exact wp_read h hd hK (by simp [execOp, ho]) hvc (ev_R h x) (ev_keys h x)
theorem ev_bool (h : StO C n F ok0 w0 ok β s a w) {x : Operand} {t : Bool} (e : s.ev x = .p (.bool t)) : a.eval x = .bool t := by
 have := ev_R h x
 rw [e, R, RP] at this
 exact this
theorem ev_int (h : StO C n F ok0 w0 ok β s a w) {x : Operand} {j : IntKind} {m : Int} (e : s.ev x = .p (.int j m)) : a.eval x = .int j m := by
 have := ev_R h x
 rw [e, R, RP] at this
 exact this
theorem ev_str (h : StO C n F ok0 w0 ok β s a w) {x : Operand} {l : List UInt8} (e : s.ev x = .p (.str l)) : a.eval x = .string ⟨l.toArray⟩ := by
 have := ev_R h x
 rw [e, R, RP] at this
 exact this
theorem op_pick {c x y : Operand} (ho : o.op = .pick c x y) (h : StO C n F ok0 w0 ok β s a w) (hd : ∀ d, o.dst = some d → d < n) (hvc : VC C own o s.ev s.η k)
  (hK : ∀ u a' w', k u → St C n F ok0 w0 (s.app o.dst u) a' w' → K a' w') : o.wp C.P a w K Q := by
 simp only [VC, ho] at hvc
 split at hvc
 ·rename_i t e
  have hc := ev_bool h e
  cases t with
  | true => exact wp_read h hd hK (by simp [execOp, ho, hc, asBool]) hvc (ev_R h x) (ev_keys h x)
  | false => exact wp_read h hd hK (by simp [execOp, ho, hc, asBool]) hvc (ev_R h y) (ev_keys h y)
 ·exact hvc.elim
theorem op_makeFunc {f : Fn} {fi ca : Array Operand} (ho : o.op = .makeFunc f fi ca) (h : StO C n F ok0 w0 ok β s a w) (hd : ∀ d, o.dst = some d → d < n) (hvc : VC C own o s.ev s.η k)
  (hK : ∀ u a' w', k u → St C n F ok0 w0 (s.app o.dst u) a' w' → K a' w') : o.wp C.P a w K Q := by
 simp only [VC, ho] at hvc
 split at hvc
 ·rename_i f' e2
  have hfi : fi = #[] := by cases fi; simp_all
  subst hfi
  refine wp_read h hd hK (v := .func (.func f') #[] (ca.toList.map a.eval).toArray) (by simp [execOp, ho, Instr.makeFunc]; apply Array.ext'; simp) hvc ?_ ?_
  ·rw [R]
   refine ⟨_, rfl, ?_⟩
   induction ca.toList with
   | nil => trivial
   | cons x l ih => exact ⟨ev_R h x, ih⟩
  ·intro κ hκ
   simp only [SV.keys] at hκ
   have key : ∀ l : List Operand, κ ∈ SV.keysL (l.map s.ev) → (s.η κ).live = true := by
    intro l
    induction l with
    | nil => intro hl; simp [SV.keysL] at hl
    | cons x l ih =>
     intro hl
     simp only [List.map_cons, SV.keysL, List.mem_append] at hl
     rcases hl with hl | hl
     ·exact ev_keys h x κ hl
     ·exact ih hl
   exact key _ hκ
 ·exact hvc.elim
theorem op_nilCheck {x : Operand} (ho : o.op = .nilCheck x) (h : StO C n F ok0 w0 ok β s a w) (hd : ∀ d, o.dst = some d → d < n) (hvc : VC C own o s.ev s.η k)
  (hK : ∀ u a' w', k u → St C n F ok0 w0 (s.app o.dst u) a' w' → K a' w') : o.wp C.P a w K Q := by
 simp only [VC, ho] at hvc
 split at hvc
 ·rename_i κ off e
  have hr := ev_R h x
  have hk := ev_keys h x
  rw [e] at hr hk
  have hr' := hr
  rw [R] at hr'
  obtain ⟨b, h1, h2⟩ := hr'
  exact wp_read h hd hK (v := a.eval x) (by simp [execOp, ho, h2]) hvc hr hk
 ·rename_i κ sz i e
  have hr := ev_R h x
  have hk := ev_keys h x
  rw [e] at hr hk
  have hr' := hr
  rw [R] at hr'
  obtain ⟨g, m, cap, h1, h2⟩ := hr'
  exact wp_read h hd hK (v := a.eval x) (by simp [execOp, ho, h2]) hvc hr hk
 ·exact hvc.elim
theorem op_unOp {op : UnOp} {t : TypeId} {x : Operand} (ho : o.op = .unOp op t x) (h : StO C n F ok0 w0 ok β s a w) (hd : ∀ d, o.dst = some d → d < n) (hvc : VC C own o s.ev s.η k)
  (hK : ∀ u a' w', k u → St C n F ok0 w0 (s.app o.dst u) a' w' → K a' w') : o.wp C.P a w K Q := by
 simp only [VC, ho] at hvc
 split at hvc
 ·rename_i b e
  have hc := ev_bool h e
  exact wp_read h hd hK (v := .bool !b) (by simp [execOp, ho, hc, Op.unary]) hvc (by rw [R, RP]) (by intro κ hκ; cases hκ)
 ·rename_i j b e
  obtain ⟨r, rfl, hvc⟩ := hvc
  have hc := ev_int h e
  exact wp_read h hd hK (v := .int j (j.wrap (0 - b))) (by simp [execOp, ho, hc, Op.unary, Op.intArith]) hvc (by rw [R, RP]) (by intro κ hκ; cases hκ)
 ·rename_i j b e
  simp only [intBin] at hvc
  obtain ⟨r, rfl, hvc⟩ := hvc
  have hc := ev_int h e
  exact wp_read h hd hK (v := .int j (j.wrap (BitVec.ofInt j.bits (if j.signed then -1 else j.max) ^^^ BitVec.ofInt j.bits b).toNat)) (by simp only [execOp, ho, hc, Op.unary, Op.intBits, Sem.run_bind, Sem.run_pure, Result.andThen_ok]) hvc (by rw [R, RP]) (by intro κ hκ; cases hκ)
 ·exact hvc.elim
theorem op_extract {x : Operand} {i : Nat} (ho : o.op = .extract x i) (h : StO C n F ok0 w0 ok β s a w) (hd : ∀ d, o.dst = some d → d < n) (hvc : VC C own o s.ev s.η k)
  (hK : ∀ u a' w', k u → St C n F ok0 w0 (s.app o.dst u) a' w' → K a' w') : o.wp C.P a w K Q := by
 simp only [VC, ho] at hvc
 split at hvc
 ·rename_i cs e
  have hr := ev_R h x
  have hk := ev_keys h x
  rw [e, R] at hr
  rw [e] at hk
  obtain ⟨vs, h1, h2⟩ := hr
  split at hvc
  ·rename_i y ey
   obtain ⟨v, hv, hry⟩ := RL_get h2 ey
   exact wp_read h hd hK (v := v) (by simp [execOp, ho, h1, Instr.extract, hv]) hvc hry fun κ hκ => hk κ (by simpa [SV.keys] using keysL_mem (List.mem_of_getElem? ey) hκ)
  ·exact hvc.elim
 ·exact hvc.elim
theorem binOp_eqGuard {P : Program} {op : BinOp} {t : TypeId} {x y : Operand} {u v : Value} (hu : one u) (hv : one v) (h1 : u ≠ .nilIface) : (eqGuard op t x y u v).run P w = .ok () w := by
 unfold eqGuard
 cases u <;> cases v <;> first | (simp [one, Value.oneCell'] at hu; done) | (simp [one, Value.oneCell'] at hv; done) | (exact absurd rfl h1) | (simp; try split <;> simp)
theorem run_intBin {P : Program} {op : BinOp} {t : TypeId} {j j' : IntKind} {x y : Int} {K : PV → Prop} (hj : okK op j j' = true) (h : intBin op j x y K) : ∃ r v, (binOp op t (.int j x) (.int j' y)).run P w = .ok v w ∧ RP ok w r v ∧ K r := by
 have hs : op = .shl ∨ op = .shr ∨ j = j' := by cases op <;> simp_all [okK]
 cases op <;> simp only [intBin] at h
 case shl =>
  obtain ⟨h0, r, rfl, h⟩ := h
  exact ⟨_, _, by simp [binOp, Op.shift, Int.not_lt.2 h0]; rfl, by rw [RP], h⟩
 case shr =>
  obtain ⟨h0, r, rfl, h⟩ := h
  exact ⟨_, _, by simp [binOp, Op.shift, Int.not_lt.2 h0]; rfl, by rw [RP], h⟩
 all_goals
  have hs' : j = j' := by simpa using hs
  subst hs'
 case quo =>
  obtain ⟨h0, r, rfl, h⟩ := h
  exact ⟨_, _, by simp [binOp, Op.intDiv, h0]; rfl, by rw [RP], h⟩
 case rem =>
  obtain ⟨h0, r, rfl, h⟩ := h
  exact ⟨_, _, by simp [binOp, Op.intDiv, h0]; rfl, by rw [RP], h⟩
 case and =>
  obtain ⟨r, rfl, h⟩ := h
  exact ⟨_, _, by simp only [binOp, Op.intBits, ne_eq, not_true_eq_false, if_false]; rfl, by rw [RP], h⟩
 case or =>
  obtain ⟨r, rfl, h⟩ := h
  exact ⟨_, _, by simp only [binOp, Op.intBits, ne_eq, not_true_eq_false, if_false]; rfl, by rw [RP], h⟩
 case xor =>
  obtain ⟨r, rfl, h⟩ := h
  exact ⟨_, _, by simp only [binOp, Op.intBits, ne_eq, not_true_eq_false, if_false]; rfl, by rw [RP], h⟩
 case add => obtain ⟨r, rfl, h⟩ := h; exact ⟨_, _, by simp [binOp, Op.intArith]; rfl, by rw [RP], h⟩
 case sub => obtain ⟨r, rfl, h⟩ := h; exact ⟨_, _, by simp [binOp, Op.intArith]; rfl, by rw [RP], h⟩
 case mul => obtain ⟨r, rfl, h⟩ := h; exact ⟨_, _, by simp [binOp, Op.intArith]; rfl, by rw [RP], h⟩
 case eql =>
  refine ⟨_, _, by simp [binOp, Op.intCmp]; rfl, ?_, h⟩
  rw [RP]
  congr 1
 case neq =>
  refine ⟨_, _, by simp [binOp, Op.intCmp]; rfl, ?_, h⟩
  rw [RP]
  congr 1
  by_cases e : x = y <;> simp [e]
 case lss => exact ⟨_, _, by simp [binOp, Op.intCmp]; rfl, by rw [RP], h⟩
 case leq => exact ⟨_, _, by simp [binOp, Op.intCmp]; rfl, by rw [RP], h⟩
 case gtr => exact ⟨_, _, by simp [binOp, Op.intCmp]; rfl, by rw [RP], h⟩
 case geq => exact ⟨_, _, by simp [binOp, Op.intCmp]; rfl, by rw [RP], h⟩
theorem run_strBin {P : Program} {op : BinOp} {t : TypeId} {x y : List UInt8} {K : PV → Prop} (h : strBin op x y K) : ∃ r v, (binOp op t (.string ⟨x.toArray⟩) (.string ⟨y.toArray⟩)).run P w = .ok v w ∧ RP ok w r v ∧ K r := by
 have hx : (ByteArray.mk x.toArray).size = x.length := by simp [ByteArray.size]
 have hy : (ByteArray.mk y.toArray).size = y.length := by simp [ByteArray.size]
 cases op <;> simp only [strBin, strBin2] at h
 case add =>
  refine ⟨_, .string (⟨x.toArray⟩ ++ ⟨y.toArray⟩), ?_, ?_, h.2⟩
  ·have : ¬ ((x.length + y.length : Nat) : Int) > IntKind.i64.max := by
    have := h.1
    simp [IntKind.max, IntKind.signed, IntKind.bits]
    omega
   simp only [binOp, Op.stringOp, hx, hy, if_neg this, Sem.run_pure]
  ·rw [RP]
   congr 1
 case eql =>
  refine ⟨_, _, by simp [binOp, Op.stringOp]; rfl, ?_, h⟩
  rw [RP]
  by_cases e : x = y <;> simp [e]
 case neq =>
  refine ⟨_, _, by simp [binOp, Op.stringOp]; rfl, ?_, h⟩
  rw [RP]
  congr 1
  by_cases e : x = y <;> simp [e]
 case lss => exact ⟨_, _, by simp [binOp, Op.stringOp]; rfl, by rw [RP], h⟩
 case leq =>
  refine ⟨_, _, by simp [binOp, Op.stringOp]; rfl, ?_, h⟩
  rw [RP]
  congr 1
  by_cases e : x = y <;> simp [e]
theorem run_equal_bool {P : Program} {t : TypeId} (h : P.underlying t = some .bool) (b c : Bool) : (Op.equal t (.bool b) (.bool c)).run P w = .ok (b == c) w := by
 have key : ∀ d, (Op.equalIn (d + 1) t (.bool b) (.bool c)).run P w = .ok (b == c) w := by
  intro d
  simp only [Op.equalIn, Sem.run_bind, run_underlying h, Result.andThen_ok, Sem.run_pure]
 exact key 9999
theorem run_equal_nil {P : Program} {t e : TypeId} (h : P.underlying t = some (.slice e)) (A : Option Addr) (n c : Nat) : (Op.equal t (.slice A n c) (.slice none 0 0)).run P w = .ok A.isNone w := by
 have key : ∀ d, (Op.equalIn (d + 1) t (.slice A n c) (.slice none 0 0)).run P w = .ok A.isNone w := by
  intro d
  cases A with
  | none => simp only [Op.equalIn, Sem.run_bind, run_underlying h, Result.andThen_ok, Sem.run_pure]
  | some ad => simp only [Op.equalIn, Sem.run_bind, run_underlying h, Result.andThen_ok, Sem.run_pure, Option.isNone_some]
 exact key 9999
theorem run_equal_ptr {P : Program} {t e : TypeId} (h : P.underlying t = some (.pointer e)) (ad : Addr) : (Op.equal t (.pointer (some ad)) (.pointer none)).run P w = .ok false w := by
 have key : ∀ d, (Op.equalIn (d + 1) t (.pointer (some ad)) (.pointer none)).run P w = .ok false w := by
  intro d
  simp only [Op.equalIn, Sem.run_bind, run_underlying h, Result.andThen_ok, Sem.run_pure]
 exact key 9999
theorem run_equal_fn0 {P : Program} {t : TypeId} {a b c} (h : P.underlying t = some (.func a b c)) : (Op.equal t .nilFunc .nilFunc).run P w = .ok true w := by
 have key : ∀ d, (Op.equalIn (d + 1) t .nilFunc .nilFunc).run P w = .ok true w := by
  intro d
  simp only [Op.equalIn, Sem.run_bind, run_underlying h, Result.andThen_ok, Sem.run_pure]
 exact key 9999
theorem run_equal_fn1 {P : Program} {t : TypeId} {a b c} {f} {x y : Array Value} (h : P.underlying t = some (.func a b c)) : (Op.equal t (.func f x y) .nilFunc).run P w = .ok false w := by
 have key : ∀ d, (Op.equalIn (d + 1) t (.func f x y) .nilFunc).run P w = .ok false w := by
  intro d
  simp only [Op.equalIn, Sem.run_bind, run_underlying h, Result.andThen_ok, Sem.run_pure]
 exact key 9999
theorem run_equal_ptr0 {P : Program} {t e : TypeId} (h : P.underlying t = some (.pointer e)) : (Op.equal t (.pointer none) (.pointer none)).run P w = .ok true w := by
 have key : ∀ d, (Op.equalIn (d + 1) t (.pointer none) (.pointer none)).run P w = .ok true w := by
  intro d
  simp only [Op.equalIn, Sem.run_bind, run_underlying h, Result.andThen_ok, Sem.run_pure]
  rfl
 exact key 9999
theorem run_equal_if0 {P : Program} {t : TypeId} {l} (h : P.underlying t = some (.interface l)) : (Op.equal t .nilIface .nilIface).run P w = .ok true w := by
 have key : ∀ d, (Op.equalIn (d + 1) t .nilIface .nilIface).run P w = .ok true w := by
  intro d
  simp only [Op.equalIn, Sem.run_bind, run_underlying h, Result.andThen_ok, Sem.run_pure]
 exact key 9999
theorem run_equal_if1 {P : Program} {t : TypeId} {l} {t' : TypeId} {v : Value} (h : P.underlying t = some (.interface l)) : (Op.equal t (.iface t' v) .nilIface).run P w = .ok false w := by
 have key : ∀ d, (Op.equalIn (d + 1) t (.iface t' v) .nilIface).run P w = .ok false w := by
  intro d
  simp only [Op.equalIn, Sem.run_bind, run_underlying h, Result.andThen_ok, Sem.run_pure]
 exact key 9999
theorem cxOf_R {x : SV} {j : FloatKind} {a b : Nat} {v : Value} (e : cxOf x = some (j, a, b)) (h : R ok β w x v) : v = .complex j a b := by
 unfold cxOf at e
 split at e
 ·cases e
  rw [R, RP] at h
  exact h.1
 ·cases e
def nilV (u v : Value) : Prop := (v = .nilFunc ∧ (u = .nilFunc ∨ ∃ f x y, u = .func f x y)) ∨ (v = .pointer none ∧ ∃ a, u = .pointer a) ∨ (v = .nilIface ∧ (u = .nilIface ∨ ∃ t x, u = .iface t x))
theorem nilCmp_R {P : Program} {x y : SV} {kk : Nat} {b : Bool} {t : Nat} {ti : TI} {u v : Value} (e : nilCmp x y = some (kk, b)) (hx : R ok β w x u) (hy : R ok β w y v) (hT : TyOk P t ti) (hk : ti.k = kk) :
  (Op.equal t u v).run P w = .ok b w ∧ (one u ∧ one v) ∧ nilV u v := by
 unfold nilCmp at e
 split at e
 ·rw [R, RP] at hy
  obtain ⟨rfl, h1⟩ := hy
  split at e
  ·cases e
   rw [R, RP] at hx
   obtain ⟨rfl, h2⟩ := hx
   obtain ⟨f1, f2, f3, hu⟩ := hT.func hk
   exact ⟨run_equal_fn0 hu, ⟨h2, h1⟩, .inl ⟨rfl, .inl rfl⟩⟩
  ·cases e
   rw [R] at hx
   obtain ⟨vs, rfl, _⟩ := hx
   obtain ⟨f1, f2, f3, hu⟩ := hT.func hk
   exact ⟨run_equal_fn1 hu, ⟨rfl, h1⟩, .inl ⟨rfl, .inr ⟨_, _, _, rfl⟩⟩⟩
  ·cases e
 ·rw [R, RP] at hy
  obtain ⟨rfl, h1⟩ := hy
  split at e
  ·cases e
   rw [R, RP] at hx
   obtain ⟨rfl, h2⟩ := hx
   obtain ⟨f1, hu⟩ := hT.ptr hk
   exact ⟨run_equal_ptr0 hu, ⟨h2, h1⟩, .inr (.inl ⟨rfl, _, rfl⟩)⟩
  ·cases e
   rw [R] at hx
   obtain ⟨bb, _, rfl⟩ := hx
   obtain ⟨f1, hu⟩ := hT.ptr hk
   exact ⟨run_equal_ptr hu _, ⟨rfl, h1⟩, .inr (.inl ⟨rfl, _, rfl⟩)⟩
  ·cases e
   rw [R] at hx
   obtain ⟨g, m, cap, _, rfl⟩ := hx
   obtain ⟨f1, hu⟩ := hT.ptr hk
   exact ⟨run_equal_ptr hu _, ⟨rfl, h1⟩, .inr (.inl ⟨rfl, _, rfl⟩)⟩
  ·cases e
 ·rw [R, RP] at hy
  obtain ⟨rfl, h1⟩ := hy
  split at e
  ·cases e
   rw [R, RP] at hx
   obtain ⟨rfl, h2⟩ := hx
   obtain ⟨f1, hu⟩ := hT.iface hk
   exact ⟨run_equal_if0 hu, ⟨h2, h1⟩, .inr (.inr ⟨rfl, .inl rfl⟩)⟩
  ·cases e
   rw [R, RP] at hx
   obtain ⟨t', x, rfl⟩ := hx
   obtain ⟨f1, hu⟩ := hT.iface hk
   exact ⟨run_equal_if1 hu, ⟨rfl, h1⟩, .inr (.inr ⟨rfl, .inr ⟨_, _, rfl⟩⟩)⟩
  ·cases e
 ·cases e
theorem nil_guard {P : Program} {op : BinOp} {t : TypeId} {x : Operand} {v' : Value} {u v : Value} (h : one u ∧ one v) (hn : nilV u v) : (eqGuard op t x (.const v') u v).run P w = .ok () w := by
 rcases hn with ⟨rfl, rfl | ⟨f, x, y, rfl⟩⟩ | ⟨rfl, a, rfl⟩ | ⟨rfl, rfl | ⟨f, x, rfl⟩⟩ <;> cases op <;> simp [eqGuard]
theorem bin_eql {t : TypeId} {u v : Value} (hn : nilV u v) : (binOp .eql t u v) = (do pure (.bool (← Op.equal t u v))) := by
 rcases hn with ⟨rfl, rfl | ⟨f, x, y, rfl⟩⟩ | ⟨rfl, a, rfl⟩ | ⟨rfl, rfl | ⟨f, x, rfl⟩⟩ <;> simp [binOp]
theorem bin_neq {t : TypeId} {u v : Value} (hn : nilV u v) : (binOp .neq t u v) = (do pure (.bool (!(← Op.equal t u v)))) := by
 rcases hn with ⟨rfl, rfl | ⟨f, x, y, rfl⟩⟩ | ⟨rfl, a, rfl⟩ | ⟨rfl, rfl | ⟨f, x, rfl⟩⟩ <;> simp [binOp]
theorem op_binOp (hC : CxOk C) {op : BinOp} {t t' : TypeId} {x y : Operand} (ho : o.op = .binOp op t x y t') (h : StO C n F ok0 w0 ok β s a w) (hd : ∀ d, o.dst = some d → d < n) (hvc : VC C own o s.ev s.η k)
  (hK : ∀ u a' w', k u → St C n F ok0 w0 (s.app o.dst u) a' w' → K a' w') : o.wp C.P a w K Q := by
 simp only [VC, ho] at hvc
 have fin : ∀ (u v : Value) (r : PV) (z : Value), a.eval x = u → a.eval y = v → one u → one v → u ≠ .nilIface → (binOp op t u v).run C.P w = .ok z w → RP ok w r z → k { x := .p r } → o.wp C.P a w K Q := by
  intro u v r z e1 e2 h1 h2 h3 hr hz hu
  refine wp_read h hd hK (v := z) ?_ hu hz (by intro κ hκ; cases hκ)
  simp [execOp, ho, e1, e2, binOp_eqGuard h1 h2 h3, hr]
 split at hvc
 ·rename_i j b j' c e1 e2
  obtain ⟨hj, hvc⟩ := hvc
  obtain ⟨r, v, hr, hz, hu⟩ := run_intBin (ok := ok) (w := w) (P := C.P) (t := t) hj hvc
  exact fin _ _ r v (ev_int h e1) (ev_int h e2) rfl rfl (by simp) hr hz hu
 ·rename_i b c e1 e2
  obtain ⟨r, v, hr, hz, hu⟩ := run_strBin (ok := ok) (w := w) (P := C.P) (t := t) hvc
  exact fin _ _ r v (ev_str h e1) (ev_str h e2) rfl rfl (by simp) hr hz hu
 ·rename_i b c e1 e2
  split at hvc
  ·rename_i ti eT
   obtain ⟨hk, hvc⟩ := hvc
   refine fin _ _ _ (.bool (b == c)) (ev_bool h e1) (ev_bool h e2) rfl rfl (by simp) ?_ (by rw [RP]) hvc
   simp [binOp, run_equal_bool ((hC.ty _ _ eT).bool hk)]
  ·rename_i ti eT
   obtain ⟨hk, hvc⟩ := hvc
   refine fin _ _ _ (.bool (!(b == c))) (ev_bool h e1) (ev_bool h e2) rfl rfl (by simp) ?_ (by rw [RP]) hvc
   simp [binOp, run_equal_bool ((hC.ty _ _ eT).bool hk)]
  ·exact hvc.elim
 ·rename_i L e1 e2
  have hx := ev_R h x
  have hy := ev_R h y
  rw [e1, R, RP] at hx
  rw [e2, R, RP] at hy
  obtain ⟨A, cap, sz, h1, h2, _, h4⟩ := hx
  split at hvc
  ·rename_i ti eT
   obtain ⟨hk, hvc⟩ := hvc
   have hu := run_equal_nil (P := C.P) (w := w) ((hC.ty _ _ eT).slice hk) A L.length cap
   refine wp_read h hd hK (x := .nilQ L) (v := .bool A.isNone) ?_ hvc ?_ (by intro κ hκ; cases hκ)
   ·simp [execOp, ho, h1, hy, eqGuard, binOp, hu]
   ·rw [R]
    refine ⟨_, rfl, fun hA => ?_⟩
    cases L with
    | nil => rfl
    | cons z L =>
     obtain ⟨⟨ad, c, h5, _⟩, _⟩ := h4
     rw [h5] at hA
     simp at hA
  ·exact hvc.elim
 ·unfold nilVC at hvc
  split at hvc
  ·unfold cxVC at hvc
   split at hvc
   ·rename_i j a b j' c d e1 e2
    obtain ⟨rfl, r, hr, hu⟩ := hvc
    have hx := ev_R h x
    have hy := ev_R h y
    have h1 := cxOf_R e1 hx
    have h2 := cxOf_R e2 hy
    refine fin _ _ _ (.bool r) h1 h2 rfl rfl (by simp) ?_ (by rw [RP]) hu
    simp [binOp, hr]
   ·exact hvc.elim
  ·rename_i kk b e1
   split at hvc
   ·rename_i ti eT
    obtain ⟨hl, hk, hvc⟩ := hvc
    have hg := nilCmp_R (P := C.P) e1 (ev_R h x) (ev_R h y) (hC.ty _ _ eT) hk
    have hg2 : (eqGuard op t x y (a.eval x) (a.eval y)).run C.P w = .ok () w := by
     have hc : ∃ v, y = .const v := by cases y <;> simp [isConst] at hl; exact ⟨_, rfl⟩
     obtain ⟨v, rfl⟩ := hc
     exact nil_guard hg.2.1 hg.2.2
    split at hvc
    ·refine wp_read h hd hK (x := .p (.bool b)) (v := .bool b) ?_ hvc (by rw [R, RP]) (by intro κ hκ; cases hκ)
     have hb2 : (binOp .eql t (a.eval x) (a.eval y)).run C.P w = .ok (.bool b) w := by rw [bin_eql hg.2.2]; simp only [Sem.run_bind, hg.1, Result.andThen_ok, Sem.run_pure]
     simp [execOp, ho, hg2, hb2]
    ·refine wp_read h hd hK (x := .p (.bool (!b))) (v := .bool (!b)) ?_ hvc (by rw [R, RP]) (by intro κ hκ; cases hκ)
     have hb2 : (binOp .neq t (a.eval x) (a.eval y)).run C.P w = .ok (.bool (!b)) w := by rw [bin_neq hg.2.2]; simp only [Sem.run_bind, hg.1, Result.andThen_ok, Sem.run_pure]
     simp [execOp, ho, hg2, hb2]
    ·exact hvc.elim
   ·exact hvc.elim
end
end Go.Vc
namespace Go.Vc
open Go Go.RowKit
section
variable {C : Cx} {n : Nat} {F : Fm} {ok0 : Nat → Prop} {w0 : World} {ok : Nat → Prop} {β : Nat → Value} {s : S} {a : Act} {w : World} {own : Nat → Bool} {o : Oper} {k : U → Prop} {K : Act → World → Prop} {Q : Exit → Act → World → Prop}
theorem add_add (ad : Addr) (m j : Nat) : (ad.add m).add j = ad.add (m + j) := by
 unfold Addr.add
 by_cases h1 : m = 0 <;> by_cases h2 : j = 0 <;> simp [h1, h2, Nat.add_assoc]
theorem add_plain (b off j : Nat) : (⟨b, off, none⟩ : Addr).add j = ⟨b, off + j, none⟩ := by unfold Addr.add; split <;> simp_all
theorem fld {P : Program} {t : TypeId} {ti : TI} (h : TyOk P t ti) {f off m : Nat} (hf : ti.flds[f]? = some (off, m)) (hk : ti.k = 1) : ∃ fs fd i, P.underlying t = some (.struct fs) ∧ fs[f]? = some fd ∧ fd.offset = off ∧ P.info? fd.type = some i ∧ i.size = m := by
 obtain ⟨i, d, z, h1, h2, _, _, _, _, _, h3, _⟩ := h.out
 cases d <;> simp only [KindOk] at h3
 case struct fs =>
  have h4 := congrArg (fun l => l[f]?) h3.2.2.1
  simp only [List.getElem?_map, hf, Option.map_some] at h4
  cases e : fs.toList[f]? with
  | none => rw [e] at h4; simp at h4
  | some fd =>
   rw [e] at h4
   simp only [Option.map_some, Option.some.injEq, Prod.mk.injEq] at h4
   cases e2 : P.info? fd.type with
   | none => rw [e2] at h4; simp at h4
   | some i =>
    rw [e2] at h4
    simp at h4
    exact ⟨fs, fd, i, h2, by simpa using e, h4.1, e2, h4.2⟩
 all_goals omega
theorem run_fieldAt {P : Program} {t : TypeId} {ti : TI} (h : TyOk P t ti) {f off m : Nat} (hf : ti.flds[f]? = some (off, m + 1)) (hk : ti.k = 1) (ad : Addr) : (Instr.fieldAt t (.pointer (some ad)) f).run P w = .ok (.pointer (some (ad.add off))) w := by
 obtain ⟨fs, fd, i, h1, h2, h3, h4, h5⟩ := fld h hf hk
 have hz : (sizeOf fd.type).run P w = .ok (m + 1) w := by simp [sizeOf, typeInfo, h4, h5]
 simp only [Instr.fieldAt, Sem.run_bind, run_underlying h1, Result.andThen_ok, h2, Instr.sureAddr, Sem.run_pure, fieldPlace, hz, Sem.run_ite]
 simp [h3]
theorem op_fieldAddr (hC : CxOk C) {t : TypeId} {x : Operand} {f : Nat} (ho : o.op = .fieldAddr t x f) (h : StO C n F ok0 w0 ok β s a w) (hd : ∀ d, o.dst = some d → d < n) (hvc : VC C own o s.ev s.η k)
  (hK : ∀ u a' w', k u → St C n F ok0 w0 (s.app o.dst u) a' w' → K a' w') : o.wp C.P a w K Q := by
 simp only [VC, ho] at hvc
 split at hvc
 ·exact hvc.elim
 ·rename_i ti eT
  split at hvc
  ·rename_i off m ef
   obtain ⟨hk1, hvc⟩ := hvc
   have hr := ev_R h x
   have hkx := ev_keys h x
   split at hvc
   ·rename_i κ o' e
    rw [e] at hr hkx
    rw [R] at hr
    obtain ⟨b, h1, h2⟩ := hr
    refine wp_read h hd hK (v := .pointer (some ⟨b, o' + off, none⟩)) ?_ hvc ?_ hkx
    ·simp [execOp, ho, h2, run_fieldAt (hC.ty _ _ eT) ef hk1, add_plain]
    ·rw [R]; exact ⟨b, h1, rfl⟩
   ·rename_i y e
    rw [e] at hr hkx
    rw [R] at hr
    obtain ⟨ad, c, h1, h2⟩ := hr
    refine wp_read h hd hK (v := .pointer (some (ad.add off))) ?_ hvc ?_ (by intro κ hκ; cases hκ)
    ·simp [execOp, ho, h1, run_fieldAt (hC.ty _ _ eT) ef hk1]
    ·rw [R]; exact ⟨ad, c, rfl, h2⟩
   ·rename_i y o' e
    rw [e] at hr hkx
    rw [R] at hr
    obtain ⟨ad, c, h1, h2⟩ := hr
    refine wp_read h hd hK (v := .pointer (some (ad.add (o' + off)))) ?_ hvc ?_ (by intro κ hκ; cases hκ)
    ·simp [execOp, ho, h1, run_fieldAt (hC.ty _ _ eT) ef hk1, add_add]
    ·rw [R]; exact ⟨ad, c, rfl, h2⟩
   ·rename_i κ sz i e
    rw [e] at hr hkx
    rw [R] at hr
    obtain ⟨g, m', cap, h1, h2⟩ := hr
    refine wp_read h hd hK (v := .pointer (some ((⟨g, 0, none⟩ : Addr).add (i * sz + off)))) ?_ hvc ?_ hkx
    ·simp [execOp, ho, h2, run_fieldAt (hC.ty _ _ eT) ef hk1, add_add]
    ·rw [R]; exact ⟨g, m', cap, h1, by rw [Nat.mul_one]⟩
   ·exact hvc.elim
  ·exact hvc.elim
theorem fld_flat {P : Program} {t : TypeId} {ti : TI} (h : TyOk P t ti) {f off : Nat} (hf : ti.flds[f]? = some (off, 1)) (hk : ti.k = 1) : ∃ fs fd, P.underlying t = some (.struct fs) ∧ fs[f]? = some fd ∧ fd.offset = off ∧ ∀ w, (Go.isAgg fd.type).run P w = .ok false w := by
 obtain ⟨fs, fd, i, h1, h2, h3, h4, h5⟩ := fld h hf hk
 refine ⟨fs, fd, h1, h2, h3, ?_⟩
 obtain ⟨i', d, z, _, g2, _, _, _, _, _, g3, _⟩ := h.out
 rw [h1] at g2
 cases g2
 simp only [KindOk] at g3
 have g4 := List.all_eq_true.1 g3.2.2.2 fd (Array.mem_toList_iff.2 (Array.mem_of_getElem? h2))
 rw [h4] at g4
 simp only [Option.map_some, Option.getD_some, h5, BEq.rfl, cond_true] at g4
 intro w
 cases e : P.underlying fd.type with
 | none => rw [e] at g4; cases g4
 | some d => cases d <;> first | (rw [e] at g4; cases g4; done) | simp [Go.isAgg, underlying, e]
theorem fld_agg {P : Program} {t : TypeId} {ti : TI} (h : TyOk P t ti) {f off m : Nat} (hf : ti.flds[f]? = some (off, m)) (hk : ti.k = 1) (hm : 2 ≤ m) : ∃ fs fd, P.underlying t = some (.struct fs) ∧ fs[f]? = some fd ∧ fd.offset = off ∧ (∀ w, (Go.isAgg fd.type).run P w = .ok true w) ∧ ∀ w, (sizeOf fd.type).run P w = .ok m w := by
 obtain ⟨fs, fd, i, h1, h2, h3, h4, h5⟩ := fld h hf hk
 refine ⟨fs, fd, h1, h2, h3, ?_, fun w => by simp [sizeOf, typeInfo, h4, h5]⟩
 obtain ⟨i', d, z, _, g2, _, _, _, _, _, g3, _⟩ := h.out
 rw [h1] at g2
 cases g2
 simp only [KindOk] at g3
 have g4 := List.all_eq_true.1 g3.2.2.2 fd (Array.mem_toList_iff.2 (Array.mem_of_getElem? h2))
 rw [h4] at g4
 have hne : (m == 1) = false := by simp; omega
 simp only [Option.map_some, Option.getD_some, h5, hne, cond_false] at g4
 intro w
 cases e : P.underlying fd.type with
 | none => rw [e] at g4; cases g4
 | some d => cases d <;> first | (rw [e] at g4; cases g4; done) | simp [Go.isAgg, underlying, e]
theorem op_field (hC : CxOk C) {t : TypeId} {x : Operand} {f : Nat} (ho : o.op = .field t x f) (h : StO C n F ok0 w0 ok β s a w) (hd : ∀ d, o.dst = some d → d < n) (hvc : VC C own o s.ev s.η k)
  (hK : ∀ u a' w', k u → St C n F ok0 w0 (s.app o.dst u) a' w' → K a' w') : o.wp C.P a w K Q := by
 simp only [VC, ho] at hvc
 split at hvc
 ·exact hvc.elim
 ·rename_i ti eT
  split at hvc
  ·rename_i off ef
   obtain ⟨hk1, hvc⟩ := hvc
   obtain ⟨fs, fd, h1, h2, h3, h4⟩ := fld_flat (hC.ty _ _ eT) ef hk1
   have hr := ev_R h x
   have hkx := ev_keys h x
   have run : ∀ (vs : List Value) (v : Value), a.eval x = .agg vs.toArray → vs[off]? = some v → (execOp a.eval o).run C.P w = .ok (.value v) w := by
    intro vs v e1 e2
    subst h3
    simp [execOp, ho, e1, Instr.field, run_underlying h1, h2, part, asAgg, h4, e2]
   split at hvc
   ·rename_i cs e
    rw [e, R, RP] at hr
    obtain ⟨vs, g1, g2, g3⟩ := hr
    split at hvc
    ·rename_i z ez
     obtain ⟨v, hv, hz⟩ := RPL_get g3 ez
     exact wp_read h hd hK (v := v) (run vs v g1 hv) hvc (by rw [R]; exact hz) (by intro κ hκ; cases hκ)
    ·exact hvc.elim
   ·rename_i cs e
    rw [e, R] at hr
    rw [e] at hkx
    obtain ⟨vs, g1, g2, g3⟩ := hr
    split at hvc
    ·rename_i z ez
     obtain ⟨v, hv, hz⟩ := RL_get g3 ez
     exact wp_read h hd hK (v := v) (run vs v g1 hv) hvc hz fun κ hκ => hkx κ (by simpa [SV.keys] using keysL_mem (List.mem_of_getElem? ez) hκ)
    ·exact hvc.elim
   ·exact hvc.elim
  ·rename_i off m _ ef
   obtain ⟨hk1, h2m, hvc⟩ := hvc
   obtain ⟨z, ez, hu⟩ := optP_eq hvc
   obtain ⟨fs, fd, h1, h2, h3, h4, h5⟩ := fld_agg (hC.ty _ _ eT) ef hk1 (Nat.le_of_ble_eq_true h2m)
   have hr := ev_R h x
   have hkx := ev_keys h x
   have run : ∀ (vs : List Value), a.eval x = .agg vs.toArray → (execOp a.eval o).run C.P w = .ok (.value (.agg ((vs.drop off).take m).toArray)) w := by
    intro vs e1
    subst h3
    simp [execOp, ho, e1, Instr.field, run_underlying h1, h2, part, asAgg, h4, h5]
   unfold fldM at ez
   split at ez
   ·rename_i cs e
    rw [e, R, RP] at hr
    obtain ⟨vs, g1, g2, g3⟩ := hr
    cases hle : Nat.ble (off + m) cs.length with
    | false => rw [hle] at ez; cases ez
    | true =>
     rw [hle] at ez
     cases ez
     refine wp_read h hd hK (run vs g1) hu ?_ (by intro κ hκ; cases hκ)
     rw [R, RP]
     exact ⟨_, rfl, fun u hu => g2 u (List.mem_of_mem_drop (List.mem_of_mem_take hu)), RPL_take _ (RPL_drop _ g3)⟩
   ·rename_i cs e
    rw [e, R] at hr
    rw [e] at hkx
    obtain ⟨vs, g1, g2, g3⟩ := hr
    cases hle : Nat.ble (off + m) cs.length with
    | false => rw [hle] at ez; cases ez
    | true =>
     rw [hle] at ez
     cases ez
     refine wp_read h hd hK (run vs g1) hu (ofCells_R (RL_take _ (RL_drop _ g3)) fun u hu => g2 u (List.mem_of_mem_drop (List.mem_of_mem_take hu))) fun κ hκ => hkx κ ?_
     show κ ∈ SV.keysL cs
     exact keysL_sub (fun z hz => List.mem_of_mem_drop (List.mem_of_mem_take hz)) (ofCells_keys hκ)
   ·cases ez
  ·exact hvc.elim
theorem op_indexAddr (hC : CxOk C) {t : TypeId} {x ix : Operand} (ho : o.op = .indexAddr t x ix) (h : StO C n F ok0 w0 ok β s a w) (hd : ∀ d, o.dst = some d → d < n) (hvc : VC C own o s.ev s.η k)
  (hK : ∀ u a' w', k u → St C n F ok0 w0 (s.app o.dst u) a' w' → K a' w') : o.wp C.P a w K Q := by
 simp only [VC, ho] at hvc
 split at hvc
 ·rename_i ti j m eT ei
  have hi := ev_int h ei
  split at hvc
  ·exact hvc.elim
  ·rename_i te eE
   have hr := ev_R h x
   have hsz := (hC.ty _ _ eE).size w
   split at hvc
   ·rename_i L e
    obtain ⟨h0, y, hy, hk2, hsh, hvc⟩ := hvc
    rw [e, R, RP] at hr
    obtain ⟨A, cap, sz, h1, h2, h3, h4⟩ := hr
    obtain ⟨ad, c, rfl, h5, h6, h7, h8⟩ := RPE_get h4 hy
    have hlt : m.toNat < L.length := (List.getElem?_eq_some_iff.1 hy).1
    have hce : sz = te.sz := by rw [← h7, (RP_one h6).2.1, hsh]
    subst hce
    refine wp_read h hd hK (x := .elt y) (v := .pointer (some (ad.add (m.toNat * te.sz)))) ?_ hvc ?_ (by intro κ hκ; cases hκ)
    ·have : 0 ≤ m ∧ m < (L.length : Int) := ⟨h0, by omega⟩
     simp [execOp, ho, h1, hi, Instr.indexAt, asIntOf, run_underlying ((hC.ty _ _ eT).slice hk2), hsz, this]
    ·rw [R]
     exact ⟨_, c, rfl, by rw [add_block]; exact h5, h6, fun i u hu => by rw [add_add]; simpa using h8 i u hu⟩
   ·rename_i g e
    split at hvc
    ·rename_i L eL
     obtain ⟨h0, y, hy, hk2, hal, hsh, hvc⟩ := hvc
     rw [e, R] at hr
     obtain ⟨sz, h4⟩ := h.gx.2 g L eL
     obtain ⟨ad, c, had, h5, h6, h7, h8⟩ := RPE_get h4 hy
     have hlt : m.toNat < L.length := (List.getElem?_eq_some_iff.1 hy).1
     have hce : sz = te.sz := by rw [← h7, (RP_one h6).2.1, hsh]
     subst hce
     simp only [Option.some.injEq] at had
     subst had
     refine wp_read h hd hK (x := .elt y) (v := .pointer (some ((⟨g, 0, none⟩ : Addr).add (m.toNat * te.sz)))) ?_ hvc ?_ (by intro κ hκ; cases hκ)
     ·have : 0 ≤ m ∧ m < (ti.alen : Int) := ⟨h0, by omega⟩
      simp [execOp, ho, hr, hi, Instr.indexAt, asIntOf, run_underlying ((hC.ty _ _ eT).array hk2), hsz, this, Instr.sureAddr]
     ·rw [R]
      exact ⟨_, c, rfl, by rw [add_block]; exact h5, h6, fun i u hu => by rw [add_add]; simpa using h8 i u hu⟩
    ·exact hvc.elim
   ·rename_i κ e
    split at hvc
    ·rename_i t' sz L eη
     obtain ⟨h0, hlt, hk2, hsz', hvc⟩ := hvc
     subst hsz'
     have hob := h.η κ
     rw [eη] at hob
     obtain ⟨_, ⟨xs, h1, _⟩, _⟩ := hob
     rw [e, R] at hr
     obtain ⟨hr, _⟩ := hr
     obtain ⟨g, cap, hb⟩ : ∃ g cap, β κ = .slice (some ⟨g, 0, none⟩) L.length cap := by
      rcases h1.2 with ⟨_, h0⟩ | ⟨g, cap, cur, hb, _⟩
      ·omega
      ·exact ⟨g, cap, hb⟩
     have hkx := ev_keys h x
     rw [e] at hkx
     refine wp_read h hd hK (x := .rowE κ te.sz m.toNat) (v := .pointer (some ((⟨g, 0, none⟩ : Addr).add (m.toNat * te.sz)))) ?_ hvc ?_ hkx
     ·have : 0 ≤ m ∧ m < (L.length : Int) := ⟨h0, by omega⟩
      simp [execOp, ho, hr, hb, hi, Instr.indexAt, asIntOf, run_underlying ((hC.ty _ _ eT).slice hk2), hsz, this]
     ·rw [R]
      exact ⟨g, _, _, hb, rfl⟩
    ·rename_i t' xs eη
     obtain ⟨h0, hlt, hk2, hsz', hvc⟩ := hvc
     have hob := h.η κ
     rw [eη] at hob
     obtain ⟨⟨vs, h1, _⟩, _⟩ := hob
     rw [e, R] at hr
     obtain ⟨hr, _⟩ := hr
     obtain ⟨g, cap, hb⟩ : ∃ g cap, β κ = .slice (some ⟨g, 0, none⟩) xs.length cap := by
      rcases h1.2 with ⟨_, h0⟩ | ⟨g, cap, cur, hb, _⟩
      ·omega
      ·exact ⟨g, cap, hb⟩
     have hkx := ev_keys h x
     rw [e] at hkx
     rw [hsz'] at hsz
     refine wp_read h hd hK (x := .rowE κ 1 m.toNat) (v := .pointer (some ((⟨g, 0, none⟩ : Addr).add (m.toNat * 1)))) ?_ hvc ?_ hkx
     ·have : 0 ≤ m ∧ m < (xs.length : Int) := ⟨h0, by omega⟩
      simp [execOp, ho, hr, hb, hi, Instr.indexAt, asIntOf, run_underlying ((hC.ty _ _ eT).slice hk2), hsz, this]
     ·rw [R]
      exact ⟨g, _, _, hb, rfl⟩
    ·exact hvc.elim
   ·rename_i κ off e
    obtain ⟨h0, hk3, hlt, hvc⟩ := hvc
    have hkx := ev_keys h x
    rw [e] at hr hkx
    rw [R] at hr
    obtain ⟨b, h1, h2⟩ := hr
    refine wp_read h hd hK (v := .pointer (some ⟨b, off + m.toNat * te.sz, none⟩)) ?_ hvc ?_ hkx
    ·have : 0 ≤ m ∧ m < (ti.alen : Int) := ⟨h0, by omega⟩
     simp [execOp, ho, h2, hi, Instr.indexAt, asIntOf, run_underlying ((hC.ty _ _ eT).array hk3), hsz, this, Instr.sureAddr, add_plain]
    ·rw [R]; exact ⟨b, h1, rfl⟩
   ·exact hvc.elim
 ·exact hvc.elim
theorem getElem?_sub {α : Type} {l : List α} {off sz j : Nat} {u : α} (h : ((l.drop off).take sz)[j]? = some u) : l[off + j]? = some u := by
 rw [List.getElem?_take] at h
 split at h
 ·rwa [List.getElem?_drop] at h
 ·cases h
theorem op_load (hC : CxOk C) {t : TypeId} {x : Operand} (ho : o.op = .load t x) (h : StO C n F ok0 w0 ok β s a w) (hd : ∀ d, o.dst = some d → d < n) (hvc : VC C own o s.ev s.η k)
  (hK : ∀ u a' w', k u → St C n F ok0 w0 (s.app o.dst u) a' w' → K a' w') : o.wp C.P a w K Q := by
 simp only [VC, ho] at hvc
 have fin : ∀ (ad : Addr) (z : SV) (v : Value), a.eval x = .pointer (some ad) → (loadVar t ad).run C.P w = .ok v w → R ok β w z v → (∀ κ ∈ z.keys, (s.η κ).live = true) → k { x := z } → o.wp C.P a w K Q := by
  intro ad z v h1 h2 h3 h4 h5
  exact wp_read h hd hK (v := v) (by simp [execOp, ho, h1, Instr.loadAt, Instr.sureAddr, h2]) h5 h3 h4
 split at hvc
 ·exact hvc.elim
 ·rename_i ti eT
  have hT := hC.ty _ _ eT
  have hr := ev_R h x
  split at hvc
  ·rename_i κ off e
   split at hvc
   ·rename_i own' t' y eη
    have hob := h.η κ
    rw [eη] at hob
    obtain ⟨b, v, hb, hheap, hy, _, _, hone, hty⟩ := hob
    rw [e, R] at hr
    obtain ⟨b', hb', hv⟩ := hr
    have : b' = b := by rw [hb] at hb'; simpa using hb'.symm
    subst this
    have hyk : ∀ κ' ∈ y.keys, (s.η κ').live = true := fun κ' hκ' => h.wf.η κ κ' (by rw [eη]; exact hκ')
    have hcell : ∀ j u, v.cells.toList[j]? = some u → w.cell? ⟨b', j, none⟩ = some u := by
     intro j u hj
     simp only [World.cell?, hheap]
     simpa using hj
    simp only [ldVC] at hvc
    cases hc : (Nat.beq t t' && Nat.beq off 0) with
    | true =>
     rw [hc] at hvc
     simp only [Bool.and_eq_true, Nat.beq_eq] at hc
     obtain ⟨rfl, rfl⟩ := hc
     obtain ⟨h1, h2, h3⟩ := hty ti eT
     cases ha : ti.agg with
     | true =>
      refine fin ⟨b', 0, none⟩ y v hv ?_ hy hyk hvc
      have := run_loadVar_agg hT ha (w := w) (ad := ⟨b', 0, none⟩) (cs := v.cells.toList) (by simpa using h1) (fun j u hj => by rw [add_plain]; simpa using hcell j u hj)
      rw [this]
      congr 1
      rw [Array.toArray_toList, ← h2 ha]
     | false =>
      refine fin ⟨b', 0, none⟩ y v hv ?_ hy hyk hvc
      refine run_loadVar_one hT ha (hcell 0 v ?_)
      rw [one_cells (h3 ha)]
      rfl
    | false =>
     rw [hc] at hvc
     simp only [cond_false] at hvc
     split at hvc
     ·exact hvc.elim
     ·rename_i cs ecs
      have hcs := cells_R hy ecs
      cases ha : ti.agg with
      | true =>
       rw [ha] at hvc
       simp only [cond_true] at hvc
       obtain ⟨hle, hvc⟩ := hvc
       have hlen := RL_length hcs
       refine fin ⟨b', off, none⟩ _ (.agg ((v.cells.toList.drop off).take ti.sz).toArray) hv ?_ (ofCells_R (RL_take _ (RL_drop _ hcs)) fun u hu => hone u (List.mem_of_mem_drop (List.mem_of_mem_take hu))) ?_ hvc
       ·refine run_loadVar_agg hT ha ?_ fun j u hj => ?_
        ·rw [List.length_take, List.length_drop]; omega
        ·rw [add_plain]; exact hcell _ u (getElem?_sub hj)
       ·intro κ' hκ'
        exact hyk κ' (cells_keys ecs (keysL_sub (fun z hz => List.mem_of_mem_drop (List.mem_of_mem_take hz)) (ofCells_keys hκ')))
      | false =>
       rw [ha] at hvc
       simp only [cond_false] at hvc
       obtain ⟨z, ez, hvc⟩ := optP_eq hvc
       obtain ⟨u, hu, hz⟩ := RL_get hcs ez
       exact fin ⟨b', off, none⟩ z u hv (run_loadVar_one hT ha (hcell off u hu)) hz (fun κ' hκ' => hyk κ' (cells_keys ecs (keysL_mem (List.mem_of_getElem? ez) hκ'))) hvc
   ·exact hvc.elim
  ·rename_i y e
   obtain ⟨hsh, hvc⟩ := hvc
   rw [e, R] at hr
   obtain ⟨ad, c, h1, h2, h3, h4⟩ := hr
   have h5 := RP_one h3
   rw [hsh] at h5
   cases ha : ti.agg with
   | true =>
    refine fin ad (.p y) c h1 ?_ h3 (by intro κ hκ; cases hκ) hvc
    have := run_loadVar_agg hT ha (w := w) (ad := ad) (cs := c.cells.toList) (by simpa using h5.2.1) (fun j u hj => h4 j u (by simpa using hj))
    rw [this]
    congr 1
    rw [Array.toArray_toList, ← h5.2.2.1 ha]
   | false =>
    refine fin ad (.p y) c h1 (run_loadVar_one hT ha ?_) h3 (by intro κ hκ; cases hκ) hvc
    have := h4 0 c (by rw [one_cells (h5.2.2.2 ha)]; rfl)
    simpa [Addr.add] using this
  ·rename_i y f e
   rw [e, R] at hr
   obtain ⟨ad, c, h1, h2, h3, h4⟩ := hr
   split at hvc
   ·rename_i cs
    rw [RP] at h3
    obtain ⟨vs, rfl, h5, h6⟩ := h3
    cases ha : ti.agg with
    | true =>
     rw [ha] at hvc
     simp only [cond_true] at hvc
     obtain ⟨hle, hvc⟩ := hvc
     have hlen := RPL_length h6
     refine fin (ad.add f) _ (.agg ((vs.drop f).take ti.sz).toArray) h1 ?_ ?_ (by intro κ hκ; cases hκ) hvc
     ·refine run_loadVar_agg hT ha ?_ fun j u hj => ?_
      ·rw [List.length_take, List.length_drop]; omega
      ·rw [add_add]
       exact h4 _ u (by simpa [Value.cells] using getElem?_sub hj)
     ·rw [R, RP]
      exact ⟨_, rfl, fun u hu => h5 u (List.mem_of_mem_drop (List.mem_of_mem_take hu)), RPL_take _ (RPL_drop _ h6)⟩
    | false =>
     rw [ha] at hvc
     simp only [cond_false] at hvc
     split at hvc
     ·rename_i z ez
      obtain ⟨u, hu, hz⟩ := RPL_get h6 ez
      exact fin (ad.add f) (.p z) u h1 (run_loadVar_one hT ha (h4 f u (by simpa [Value.cells] using hu))) hz (by intro κ hκ; cases hκ) hvc
     ·exact hvc.elim
   ·exact hvc.elim
  ·rename_i κ sz i e
   split at hvc
   ·rename_i t' sz' L eη
    have hob := h.η κ
    rw [eη] at hob
    obtain ⟨hpos, ⟨xs, hrow, hrr⟩, _⟩ := hob
    rw [e, R] at hr
    obtain ⟨g, m, cap0, hβ, hv⟩ := hr
    rw [add_plain, Nat.zero_add] at hv
    have hcells : ∀ i (c : Value), c.cells.toList = (xs.drop (i * sz')).take sz' → ∀ j u, c.cells.toList[j]? = some u → w.cell? ⟨g, i * sz' + j, none⟩ = some u := by
     intro i c hce j u hj
     rcases hrow.2 with ⟨q, _⟩ | ⟨g', cap, cur, q, q2, q3, q4, q5, q6, q7⟩
     ·rw [q] at hβ; simp at hβ
     ·rw [q] at hβ
      simp only [Value.slice.injEq, Option.some.injEq, Addr.mk.injEq] at hβ
      obtain ⟨⟨rfl, _⟩, _⟩ := hβ
      simp only [World.cell?, q3]
      rw [hce] at hj
      have h6 := getElem?_sub hj
      rw [← q7, List.getElem?_take] at h6
      split at h6
      ·simpa using h6
      ·cases h6
    rw [beq_ite] at hvc
    split at hvc
    ·rename_i hss
     subst hss
     obtain ⟨y, hy, _, hszt, hsh, hvc⟩ := hvc
     obtain ⟨c, hc, hce⟩ := hrr.2 i y hy
     have h5 := RP_one hc
     rw [hsh] at h5
     have hcell := hcells i c hce
     cases ha : ti.agg with
     | true =>
      refine fin ⟨g, i * sz, none⟩ (.p y) c hv ?_ hc (by intro κ hκ; cases hκ) hvc
      have := run_loadVar_agg hT ha (w := w) (ad := ⟨g, i * sz, none⟩) (cs := c.cells.toList) (by simpa using h5.2.1) (fun j u hj => by rw [add_plain]; exact hcell j u hj)
      rw [this]
      congr 1
      rw [Array.toArray_toList, ← h5.2.2.1 ha]
     | false =>
      refine fin ⟨g, i * sz, none⟩ (.p y) c hv (run_loadVar_one hT ha ?_) hc (by intro κ hκ; cases hκ) hvc
      have := hcell 0 c (by rw [one_cells (h5.2.2.2 ha)]; rfl)
      simpa using this
    ·obtain ⟨rfl, j, f, cs, rfl, hy, hcl, hle, hvc⟩ := hvc
     rw [Nat.mul_one] at hv
     obtain ⟨c, hc, hce⟩ := hrr.2 j _ hy
     have hcell := hcells j c hce
     rw [RP] at hc
     obtain ⟨vs, rfl, h5, h6⟩ := hc
     have hlen := RPL_length h6
     cases ha : ti.agg with
     | true =>
      rw [ha] at hvc
      simp only [cond_true] at hvc
      refine fin ⟨g, j * sz' + f, none⟩ _ (.agg ((vs.drop f).take ti.sz).toArray) hv ?_ ?_ (by intro κ hκ; cases hκ) hvc
      ·refine run_loadVar_agg hT ha ?_ fun q u hq => ?_
       ·rw [List.length_take, List.length_drop]; omega
       ·rw [add_plain, Nat.add_assoc]
        exact hcell _ u (by simpa [Value.cells] using getElem?_sub hq)
      ·rw [R, RP]
       exact ⟨_, rfl, fun u hu => h5 u (List.mem_of_mem_drop (List.mem_of_mem_take hu)), RPL_take _ (RPL_drop _ h6)⟩
     | false =>
      rw [ha] at hvc
      simp only [cond_false] at hvc
      obtain ⟨z, ez, hvc⟩ := optP_eq hvc
      obtain ⟨u, hu, hz⟩ := RPL_get h6 ez
      exact fin ⟨g, j * sz' + f, none⟩ (.p z) u hv (run_loadVar_one hT ha (hcell f u (by simpa [Value.cells] using hu))) hz (by intro κ hκ; cases hκ) hvc
   ·rename_i t' xs eη
    obtain ⟨rfl, ha, hvc⟩ := hvc
    obtain ⟨z, ez, hvc⟩ := optP_eq hvc
    have hob := h.η κ
    rw [eη] at hob
    obtain ⟨⟨vs, hrow, hvl, hone, hrl⟩, _⟩ := hob
    rw [e, R] at hr
    obtain ⟨g, m, cap0, hβ, hv⟩ := hr
    rw [add_plain, Nat.zero_add, Nat.mul_one] at hv
    obtain ⟨u, hu, hz⟩ := RL_get hrl ez
    refine fin ⟨g, i, none⟩ z u hv (run_loadVar_one hT ha ?_) hz (fun κ' hκ' => h.wf.η κ κ' (by rw [eη]; exact keysL_mem (List.mem_of_getElem? ez) hκ')) hvc
    rcases hrow.2 with ⟨q, _⟩ | ⟨g', cap, cur, q, q2, q3, q4, q5, q6, q7⟩
    ·rw [q] at hβ; simp at hβ
    ·rw [q] at hβ
     simp only [Value.slice.injEq, Option.some.injEq, Addr.mk.injEq] at hβ
     obtain ⟨⟨rfl, _⟩, _⟩ := hβ
     simp only [World.cell?, q3]
     rw [← q7, List.getElem?_take] at hu
     split at hu
     ·simpa using hu
     ·cases hu
   ·exact hvc.elim
  ·exact hvc.elim
theorem op_index (hC : CxOk C) {t : TypeId} {x ix : Operand} (ho : o.op = .index t x ix) (h : StO C n F ok0 w0 ok β s a w) (hd : ∀ d, o.dst = some d → d < n) (hvc : VC C own o s.ev s.η k)
  (hK : ∀ u a' w', k u → St C n F ok0 w0 (s.app o.dst u) a' w' → K a' w') : o.wp C.P a w K Q := by
 simp only [VC, ho] at hvc
 split at hvc
 ·rename_i ti l j m eT e ei
  obtain ⟨hk, h0, c, hc, hvc⟩ := hvc
  have h1 := ev_str h e
  have h2 := ev_int h ei
  refine wp_read h hd hK (v := .int .u8 c.toNat) ?_ hvc (by rw [R, RP]) (by intro κ hκ; cases hκ)
  have hlt := (List.getElem?_eq_some_iff.1 hc)
  obtain ⟨hlt, hce⟩ := hlt
  have hsize : (ByteArray.mk l.toArray).size = l.length := by simp [ByteArray.size]
  have hget : (ByteArray.mk l.toArray)[m.toNat]? = some c := by
   rw [getElem?_pos (ByteArray.mk l.toArray) m.toNat (by rw [hsize]; exact hlt)]
   congr 1
  simp [execOp, ho, h1, h2, Instr.index, asIntOf, run_underlying ((hC.ty _ _ eT).string hk), h0, hget]
 ·rename_i ti cs j m eT e ei
  obtain ⟨hk, h0, hlt, ⟨te, eE, ha, hz⟩, hvc⟩ := hvc
  obtain ⟨y, ey, hvc⟩ := optP_eq hvc
  have h2 := ev_int h ei
  have hr := ev_R h x
  rw [e, R, RP] at hr
  obtain ⟨vs, h1, h3, h4⟩ := hr
  obtain ⟨u, hu, hy⟩ := RPL_get h4 ey
  have hsz := (hC.ty _ _ eE).size w
  have hagg := (hC.ty _ _ eE).isAgg w
  refine wp_read h hd hK (v := u) ?_ hvc (by rw [R]; exact hy) (by intro κ hκ; cases hκ)
  have : 0 ≤ m ∧ m < (ti.alen : Int) := ⟨h0, by omega⟩
  simp [execOp, ho, h1, h2, Instr.index, asIntOf, run_underlying ((hC.ty _ _ eT).array hk), this, hsz, hz, part, hagg, ha, hu]
 ·exact hvc.elim
end
end Go.Vc
namespace Go.Vc
open Go Go.RowKit
section
variable {C : Cx} {n : Nat} {F : Fm} {ok0 : Nat → Prop} {w0 : World} {ok : Nat → Prop} {β : Nat → Value} {s : S} {a : Act} {w : World} {own : Nat → Bool} {o : Oper} {k : U → Prop} {K : Act → World → Prop} {Q : Exit → Act → World → Prop}
theorem cut_length {α : Type} {L : List α} {lo hi : Nat} (h : hi ≤ L.length) : (cut L lo hi).length = hi - lo := by
 unfold cut
 rw [List.length_take, List.length_drop]
 omega
theorem cut_get {α : Type} {L : List α} {lo hi i : Nat} {x : α} (h : (cut L lo hi)[i]? = some x) : L[lo + i]? = some x := getElem?_sub h
theorem bnd_spec (h : StO C n F ok0 w0 ok β s a w) {d : Nat} {x : Option Operand} {k : Nat → Prop} (hb : bnd s.ev d x k) : (x = none ∧ k d) ∨ ∃ y j m, x = some y ∧ a.eval y = .int j m ∧ 0 ≤ m ∧ k m.toNat := by
 cases x with
 | none => exact .inl ⟨rfl, hb⟩
 | some y =>
  simp only [bnd] at hb
  split at hb
  ·rename_i j m e
   exact .inr ⟨y, j, m, rfl, ev_int h e, hb.1, hb.2⟩
  ·exact hb.elim
theorem run_sliceBound {P : Program} {j : IntKind} {m : Int} {y : Nat} {code : BoundsCode} (h0 : 0 ≤ m) (h : m.toNat ≤ y) : (Instr.sliceBound (.int j m) y code).run P w = .ok m.toNat w := by
 have : 0 ≤ m ∧ m ≤ (y : Int) := ⟨h0, by omega⟩
 simp [Instr.sliceBound, asIntOf, this]
theorem op_len (hC : CxOk C) {c : Call} (ho : o.op = .call c) (hb : c.callee = .builtin .len) (h : StO C n F ok0 w0 ok β s a w) (hd : ∀ d, o.dst = some d → d < n) (hvc : VC C own o s.ev s.η k)
  (hK : ∀ u a' w', k u → St C n F ok0 w0 (s.app o.dst u) a' w' → K a' w') : o.wp C.P a w K Q := by
 obtain ⟨callee, args, argTypes⟩ := c
 subst hb
 simp only [VC, ho] at hvc
 split at hvc
 ·rename_i x ti eA eT
  have hargs : args = #[x] := by
   apply Array.ext'
   simpa using eA
  subst hargs
  obtain ⟨t, et, eT⟩ := Option.bind_eq_some_iff.1 eT
  have hT := hC.ty _ _ eT
  have fin : ∀ (v : Value) (m : Nat), a.eval x = v → (Builtin.len_ argTypes o.type #[v]).run C.P w = .ok (.int .i64 (m : Int)) w → k { x := .p (.int .i64 m) } → o.wp C.P a w K Q := by
   intro v m h1 h2 h3
   refine wp_read h hd hK (v := .int .i64 (m : Int)) ?_ h3 (by rw [R, RP]) (by intro κ hκ; cases hκ)
   simp [execOp, ho, resolve, invoke, builtin, h1, h2]
  have hr := ev_R h x
  split at hvc
  ·rename_i L e
   obtain ⟨hk, hvc⟩ := hvc
   rw [e, R, RP] at hr
   obtain ⟨A, cap, sz, h1, _⟩ := hr
   exact fin _ _ h1 (by simp [Builtin.len_, et, run_underlying (hT.slice hk), goInt]) hvc
  ·rename_i e
   obtain ⟨hk, hvc⟩ := hvc
   rw [e, R, RP] at hr
   exact fin _ 0 hr (by simp [Builtin.len_, et, run_underlying (hT.slice hk), goInt]) hvc
  ·rename_i l e
   obtain ⟨hk, hvc⟩ := hvc
   rw [e, R, RP] at hr
   have hs : (ByteArray.mk l.toArray).size = l.length := by simp [ByteArray.size]
   exact fin _ _ hr (by simp [Builtin.len_, et, run_underlying (hT.string hk), goInt, hs]) hvc
  ·rename_i κ e
   split at hvc
   ·rename_i t' sz L eη
    obtain ⟨hk, hvc⟩ := hvc
    have hob := h.η κ
    rw [eη] at hob
    obtain ⟨_, ⟨xs, h1, _⟩, _⟩ := hob
    rw [e, R] at hr
    obtain ⟨hr, _⟩ := hr
    rcases h1.2 with ⟨hb, h0⟩ | ⟨g, cap, cur, hb, _⟩
    ·rw [hb] at hr
     exact fin _ _ hr (by simp [Builtin.len_, et, run_underlying (hT.slice hk), goInt, h0]) hvc
    ·rw [hb] at hr
     exact fin _ _ hr (by simp [Builtin.len_, et, run_underlying (hT.slice hk), goInt]) hvc
   ·rename_i t' xs eη
    obtain ⟨hk, hvc⟩ := hvc
    have hob := h.η κ
    rw [eη] at hob
    obtain ⟨⟨vs, h1, _⟩, _⟩ := hob
    rw [e, R] at hr
    obtain ⟨hr, _⟩ := hr
    rcases h1.2 with ⟨hb, h0⟩ | ⟨g, cap, cur, hb, _⟩
    ·rw [hb] at hr
     exact fin _ _ hr (by simp [Builtin.len_, et, run_underlying (hT.slice hk), goInt, h0]) hvc
    ·rw [hb] at hr
     exact fin _ _ hr (by simp [Builtin.len_, et, run_underlying (hT.slice hk), goInt]) hvc
   ·rename_i t' sk L eη
    obtain ⟨hk, hvc⟩ := hvc
    have hob := h.η κ
    rw [eη] at hob
    obtain ⟨r, es, clock, hb, hheap, _, _, hkeys, _⟩ := hob
    rw [e, R] at hr
    obtain ⟨hr, _⟩ := hr
    rw [hb] at hr
    obtain ⟨key, hu, _⟩ := hT.map hk
    have hl : es.size = L.length := by
     have := congrArg List.length hkeys
     simpa using this
    have hg : (getObj r).run C.P w = .ok (.map es clock) w := by simp [getObj, Sem.run, hheap]
    exact fin _ _ hr (by simp [Builtin.len_, et, run_underlying hu, goInt, hg, hl]) hvc
   ·exact hvc.elim
  ·exact hvc.elim
 ·exact hvc.elim
theorem op_max {c : Call} (ho : o.op = .call c) (hb : c.callee = .builtin .max) (h : StO C n F ok0 w0 ok β s a w) (hd : ∀ d, o.dst = some d → d < n) (hvc : VC C own o s.ev s.η k)
  (hK : ∀ u a' w', k u → St C n F ok0 w0 (s.app o.dst u) a' w' → K a' w') : o.wp C.P a w K Q := by
 obtain ⟨callee, args, argTypes⟩ := c
 subst hb
 simp only [VC, ho] at hvc
 split at hvc
 ·rename_i x y eA
  have hargs : args = #[x, y] := by
   apply Array.ext'
   simpa using eA
  subst hargs
  split at hvc
  ·rename_i p q e1 e2
   refine wp_read h hd hK (v := .int .i64 (max p q)) ?_ hvc (by rw [R, RP]) (by intro κ hκ; cases hκ)
   have h1 := ev_int h e1
   have h2 := ev_int h e2
   have : (if q > p then q else p) = max p q := by split <;> omega
   simp [execOp, ho, resolve, invoke, builtin, h1, h2, Builtin.max_, Builtin.max2, this]
  ·exact hvc.elim
 ·rename_i x y z eA
  have hargs : args = #[x, y, z] := by
   apply Array.ext'
   simpa using eA
  subst hargs
  split at hvc
  ·rename_i p q r e1 e2 e3
   refine wp_read h hd hK (v := .int .i64 (max (max p q) r)) ?_ hvc (by rw [R, RP]) (by intro κ hκ; cases hκ)
   have h1 := ev_int h e1
   have h2 := ev_int h e2
   have h3 := ev_int h e3
   have g1 : (if q > p then q else p) = max p q := by split <;> omega
   have g2 : (if r > max p q then r else max p q) = max (max p q) r := by split <;> omega
   simp [execOp, ho, resolve, invoke, builtin, h1, h2, h3, Builtin.max_, Builtin.max2, g1, g2]
  ·exact hvc.elim
 ·exact hvc.elim
theorem op_min {c : Call} (ho : o.op = .call c) (hb : c.callee = .builtin .min) (h : StO C n F ok0 w0 ok β s a w) (hd : ∀ d, o.dst = some d → d < n) (hvc : VC C own o s.ev s.η k)
  (hK : ∀ u a' w', k u → St C n F ok0 w0 (s.app o.dst u) a' w' → K a' w') : o.wp C.P a w K Q := by
 obtain ⟨callee, args, argTypes⟩ := c
 subst hb
 simp only [VC, ho] at hvc
 split at hvc
 ·rename_i x y eA
  have hargs : args = #[x, y] := by
   apply Array.ext'
   simpa using eA
  subst hargs
  split at hvc
  ·rename_i p q e1 e2
   refine wp_read h hd hK (v := .int .i64 (min p q)) ?_ hvc (by rw [R, RP]) (by intro κ hκ; cases hκ)
   have h1 := ev_int h e1
   have h2 := ev_int h e2
   have : (if q < p then q else p) = min p q := by split <;> omega
   simp [execOp, ho, resolve, invoke, builtin, h1, h2, Builtin.min_, Builtin.min2, this]
  ·exact hvc.elim
 ·exact hvc.elim
end
end Go.Vc
namespace Go.Vc
open Go Go.RowKit
section
variable {C : Cx} {n : Nat} {F : Fm} {ok0 : Nat → Prop} {w0 : World} {ok : Nat → Prop} {β : Nat → Value} {s : S} {a : Act} {w : World} {own : Nat → Bool} {o : Oper} {k : U → Prop} {K : Act → World → Prop} {Q : Exit → Act → World → Prop}
theorem places_eq {P : Program} : ∀ {fs : List Field} {flds : List (Nat × Nat)}, fs.map (fun f => (f.offset, (P.info? f.type).map (·.size))) = flds.map (fun x => (x.1, some x.2)) →
  fs.mapM (fun f => (P.info? f.type).map fun i => (f.offset, i.size)) = some flds
 | [], [], _ => rfl
 | [], _ :: _, h => by simp at h
 | _ :: _, [], h => by simp at h
 | f :: fs, x :: flds, h => by
  simp only [List.map_cons, List.cons.injEq, Prod.mk.injEq] at h
  obtain ⟨⟨h1, h2⟩, h3⟩ := h
  have ih := places_eq h3
  cases e : P.info? f.type with
  | none => rw [e] at h2; simp at h2
  | some i =>
   rw [e] at h2
   simp at h2
   simp [List.mapM_cons, e, ih, h1, h2]
theorem foldl_put : ∀ (xs : List Value) (j off : Nat) (cells : List Value), off + j + xs.length ≤ cells.length →
  ((xs.zipIdx j).foldl (fun cs (c : Value × Nat) => cs.setIfInBounds (off + c.2) c.1) cells.toArray) = (cells.take (off + j) ++ xs ++ cells.drop (off + j + xs.length)).toArray
 | [], j, off, cells, h => by simp
 | x :: xs, j, off, cells, h => by
  simp only [List.length_cons] at h
  simp only [List.zipIdx_cons, List.foldl_cons]
  rw [show cells.toArray.setIfInBounds (off + j) x = (cells.set (off + j) x).toArray by simp]
  rw [foldl_put xs (j + 1) off _ (by simp; omega)]
  congr 1
  have hl : (cells.take (off + j)).length = off + j := by rw [List.length_take]; omega
  rw [List.set_eq_take_append_cons_drop, if_pos (by omega)]
  have e1 : (cells.take (off + j) ++ x :: cells.drop (off + j + 1)).take (off + (j + 1)) = cells.take (off + j) ++ [x] := by
   rw [List.take_append, hl, List.take_of_length_le (by omega)]
   rw [show off + (j + 1) - (off + j) = 1 by omega]
   rfl
  have e2 : (cells.take (off + j) ++ x :: cells.drop (off + j + 1)).drop (off + (j + 1) + xs.length) = cells.drop (off + j + (xs.length + 1)) := by
   rw [List.drop_append, hl, List.drop_eq_nil_of_le (by omega), List.nil_append]
   rw [show off + (j + 1) + xs.length - (off + j) = xs.length + 1 by omega, List.drop_succ_cons, List.drop_drop]
   congr 1
   omega
  rw [e1, e2]
  simp
theorem okPart_one {x : SV} (h : okPart x) (h1 : x.isOne = true) : x.shape = some (false, 1) := by
 unfold okPart at h
 split at h
 ·simp [SV.isOne] at h1
 ·simp [SV.isOne] at h1
 ·exact h
theorem cells_one {y : SV} {v : Value} {cs : List SV} (h : R ok β w y v) (e : y.cells = some cs) : ∀ u ∈ v.cells.toList, one u := by
 cases hs : y.shape with
 | none => cases y <;> simp [SV.shape, SV.cells] at hs e
 | some sh => exact (R_shape h hs).1
theorem fill_R {flds : List (Nat × Nat)} : ∀ {parts : List (Nat × SV)} {vparts : List (Nat × Value)} {cs cs' : List SV} {vs : List Value}, fillS flds cs parts = some cs' → oneCells parts →
  vparts.map (·.1) = parts.map (·.1) → RL ok β w (parts.map (·.2)) (vparts.map (·.2)) → RL ok β w cs vs → (∀ u ∈ vs, one u) →
  ∃ vs', Instr.fill (flds.toArray[·]?) vs.toArray vparts = some vs'.toArray ∧ RL ok β w cs' vs' ∧ (∀ u ∈ vs', one u)
 | [], [], cs, cs', vs, h, _, _, _, hr, h1 => by
  simp only [fillS, Option.some.injEq] at h
  subst h
  exact ⟨vs, rfl, hr, h1⟩
 | [], _ :: _, cs, cs', vs, h, _, he, _, hr, h1 => by simp at he
 | _ :: _, [], cs, cs', vs, h, _, he, _, hr, h1 => by simp at he
 | (i, x) :: parts, (i', v) :: vparts, cs, cs', vs, h, hone, he, hrp, hr, h1 => by
  simp only [List.map_cons, List.cons.injEq] at he
  obtain ⟨rfl, he⟩ := he
  simp only [fillS] at h
  split at h
  ·rename_i off ef
   cases hb : (Nat.blt off cs.length && x.isOne) with
   | false => rw [hb] at h; simp at h
   | true =>
    rw [hb] at h
    simp only [cond_true] at h
    rw [Bool.and_eq_true] at hb
    obtain ⟨hb, hone1⟩ := hb
    have hlt : off < cs.length := by simpa [Nat.blt_eq] using hb
    have hv : one v := (R_shape hrp.1 (okPart_one hone.1 hone1)).2.2.2 rfl
    have hlen := RL_length hr
    obtain ⟨vs', g1, g2, g3⟩ := fill_R (vs := vs.set off v) h hone.2 he hrp.2 (RL_set off hr hrp.1) (fun u hu => by
     rcases List.mem_or_eq_of_mem_set hu with hu | hu
     ·exact h1 u hu
     ·rw [hu]; exact hv)
    refine ⟨vs', ?_, g2, g3⟩
    have hsz : off + 1 ≤ vs.length := by omega
    simp only [Instr.fill, List.getElem?_toArray, ef, one_cells hv]
    simp only [List.size_toArray, List.length_cons, List.length_nil]
    rw [if_neg (by simp; omega)]
    rw [← g1]
    congr 1
    case e_place => funext j; simp
    case e_cells =>
     show vs.toArray.setIfInBounds (off + 0) v = _
     simp
  ·rename_i off m hne ef
   split at h
   ·rename_i xs exs
    cases hb : (Nat.beq xs.length m && Nat.ble (off + m) cs.length) with
    | false => rw [hb] at h; simp at h
    | true =>
     rw [hb] at h
     simp only [cond_true] at h
     simp only [Bool.and_eq_true, Nat.beq_eq, Nat.ble_eq] at hb
     obtain ⟨hxl, hlt⟩ := hb
     have hxs := cells_R hrp.1 exs
     have hvl : v.cells.toList.length = m := by rw [RL_length hxs]; exact hxl
     have hvo := cells_one hrp.1 exs
     have hlen := RL_length hr
     obtain ⟨vs', g1, g2, g3⟩ := fill_R (vs := vs.take off ++ (v.cells.toList ++ vs.drop (off + m))) h hone.2 he hrp.2 (RL_append (RL_take _ hr) (RL_append hxs (RL_drop _ hr))) (fun u hu => by
      simp only [List.mem_append] at hu
      rcases hu with hu | hu | hu
      ·exact h1 u (List.mem_of_mem_take hu)
      ·exact hvo u hu
      ·exact h1 u (List.mem_of_mem_drop hu))
     refine ⟨vs', ?_, g2, g3⟩
     have hvs : v.cells.size = m := by simpa using hvl
     simp only [Instr.fill, List.getElem?_toArray, ef, hvs]
     rw [if_neg (by simp; omega)]
     rw [← g1]
     have hf : Array.foldl (fun cs (x : Value × Nat) => cs.setIfInBounds (off + x.2) x.1) vs.toArray v.cells.zipIdx = (vs.take off ++ (v.cells.toList ++ vs.drop (off + m))).toArray := by
      rw [← Array.foldl_toList, Array.toList_zipIdx]
      have := foldl_put v.cells.toList 0 off vs (by rw [hvl]; omega)
      simpa [hvl] using this
     congr 1
     case e_place => funext j; simp
   ·simp at h
  ·simp at h
theorem fill_congr {p p' : Nat → Option (Nat × Nat)} : ∀ {parts : List (Nat × Value)} {cells : Array Value}, (∀ x ∈ parts, p x.1 = p' x.1) → Instr.fill p cells parts = Instr.fill p' cells parts
 | [], cells, _ => rfl
 | (i, v) :: parts, cells, h => by
  have h1 : p i = p' i := h (i, v) (List.mem_cons_self ..)
  have ih : ∀ cells : Array Value, Instr.fill p cells parts = Instr.fill p' cells parts := fun cells => fill_congr fun x hx => h x (List.mem_cons_of_mem _ hx)
  simp only [Instr.fill, h1, ih]
theorem fillS_in {flds : List (Nat × Nat)} : ∀ {parts : List (Nat × SV)} {cs cs' : List SV}, fillS flds cs parts = some cs' → ∀ x ∈ parts, (flds[x.1]?).isSome = true
 | [], cs, cs', _, x, hx => by cases hx
 | (i, y) :: parts, cs, cs', h, x, hx => by
  simp only [fillS] at h
  have hi : (flds[i]?).isSome = true ∧ ∃ cs2, fillS flds cs2 parts = some cs' := by
   split at h
   ·rename_i off e
    cases hb : (Nat.blt off cs.length && y.isOne) with
    | false => rw [hb] at h; simp at h
    | true => rw [hb] at h; exact ⟨by rw [e]; rfl, _, h⟩
   ·rename_i off m hne e
    split at h
    ·rename_i xs exs
     cases hb : (Nat.beq xs.length m && Nat.ble (off + m) cs.length) with
     | false => rw [hb] at h; simp at h
     | true => rw [hb] at h; exact ⟨by rw [e]; rfl, _, h⟩
    ·simp at h
   ·simp at h
  rcases List.mem_cons.1 hx with rfl | hx
  ·exact hi.1
  ·obtain ⟨_, cs2, h2⟩ := hi
   exact fillS_in h2 x hx
theorem fill_keys (h : StO C n F ok0 w0 ok β s a w) {flds : List (Nat × Nat)} : ∀ (parts : List (Nat × Operand)) (cs cs' : List SV), fillS flds cs (parts.map fun x => (x.1, s.ev x.2)) = some cs' → (∀ κ ∈ SV.keysL cs, (s.η κ).live = true) → ∀ κ ∈ SV.keysL cs', (s.η κ).live = true := by
  intro parts
  induction parts with
  | nil => intro cs cs' e hcs; simp only [List.map_nil, fillS, Option.some.injEq] at e; subst e; exact hcs
  | cons x l ih =>
   intro cs cs' e hcs
   simp only [List.map_cons, fillS] at e
   split at e
   ·rename_i off _
    cases hb : (Nat.blt off cs.length && (s.ev x.2).isOne) with
    | false => rw [hb] at e; simp at e
    | true =>
     rw [hb] at e
     refine ih _ _ e fun κ hκ => ?_
     have : ∀ l : List SV, (∀ y ∈ l, ∀ κ ∈ y.keys, (s.η κ).live = true) → ∀ κ ∈ SV.keysL l, (s.η κ).live = true := by
      intro l
      induction l with
      | nil => intro _ κ hκ; simp [SV.keysL] at hκ
      | cons y l ih =>
       intro hl κ hκ
       simp only [SV.keysL, List.mem_append] at hκ
       rcases hκ with hκ | hκ
       ·exact hl y (List.mem_cons_self ..) κ hκ
       ·exact ih (fun z hz => hl z (List.mem_cons_of_mem _ hz)) κ hκ
     refine this _ (fun y hy κ hκ => ?_) κ hκ
     rcases List.mem_or_eq_of_mem_set hy with hy | hy
     ·exact hcs κ (keysL_mem hy hκ)
     ·rw [hy] at hκ; exact ev_keys h x.2 κ hκ
   ·split at e
    ·rename_i _ off m _ _ _ xs exs
     cases hb : (Nat.beq xs.length m && Nat.ble (off + m) cs.length) with
     | false => rw [hb] at e; simp at e
     | true =>
      rw [hb] at e
      refine ih _ _ e fun κ hκ => ?_
      simp only [keysL_append, List.mem_append] at hκ
      rcases hκ with hκ | hκ | hκ
      ·exact hcs κ (keysL_sub (fun q hq => List.mem_of_mem_take hq) hκ)
      ·exact ev_keys h x.2 κ (cells_keys exs hκ)
      ·exact hcs κ (keysL_sub (fun q hq => List.mem_of_mem_drop hq) hκ)
    ·simp at e
   ·simp at e
theorem op_build (hC : CxOk C) {t : TypeId} {parts : Array (Nat × Operand)} (ho : o.op = .build t parts) (h : StO C n F ok0 w0 ok β s a w) (hd : ∀ d, o.dst = some d → d < n) (hvc : VC C own o s.ev s.η k)
  (hK : ∀ u a' w', k u → St C n F ok0 w0 (s.app o.dst u) a' w' → K a' w') : o.wp C.P a w K Q := by
 simp only [VC, ho] at hvc
 split at hvc
 ·exact hvc.elim
 ·rename_i ti eT
  cases hk3 : Nat.beq ti.k 3 with
  | true =>
   rw [hk3] at hvc
   simp only [cond_true] at hvc
   obtain ⟨⟨te, eE, hsz1⟩, hone, hvc⟩ := hvc
   obtain ⟨cs, ecs, hvc⟩ := optP_eq hvc
   obtain ⟨cs', ef, hvc⟩ := optP_eq hvc
   have hk : ti.k = 3 := Nat.eq_of_beq_eq_true hk3
   obtain ⟨i, d, z, h1, h2, h3, h4, h5, h6, h7, h8, _, _⟩ := (hC.ty _ _ eT).out
   obtain ⟨ie, de, ze, g1, g2, g3, _⟩ := (hC.ty _ _ eE).out
   have hz : R ok β w (.p ti.zero) z := by rw [← h6]; exact cv_R z
   have hzo := RP_one (by rw [R] at hz; exact hz)
   have hu := (hC.ty _ _ eT).array hk
   have hcs := cells_R hz ecs
   have hrp : RL ok β w ((parts.toList.map fun x => (x.1, s.ev x.2)).map (·.2)) ((parts.toList.map fun x => (x.1, a.eval x.2)).map (·.2)) := by
    induction parts.toList with
    | nil => trivial
    | cons x l ih => exact ⟨ev_R h x.2, ih⟩
   obtain ⟨vs', q1, q2, q3⟩ := fill_R (ok := ok) (β := β) (w := w) (vparts := parts.toList.map fun x => (x.1, a.eval x.2)) ef hone (by simp [Function.comp_def]) hrp hcs hzo.1
   have hin : ∀ x ∈ parts.toList.map (fun x => (x.1, a.eval x.2)), (idxF ti.alen).toArray[x.1]? = some (x.1 * ie.size, ie.size) := by
    intro x hx
    obtain ⟨y, hy, rfl⟩ := List.mem_map.1 hx
    have := fillS_in ef (y.1, s.ev y.2) (List.mem_map.2 ⟨y, hy, rfl⟩)
    rw [g3, hsz1]
    simp only [idxF, List.getElem?_toArray, List.getElem?_map] at this ⊢
    rw [Option.isSome_map] at this
    obtain ⟨q, hq⟩ := Option.isSome_iff_exists.1 this
    obtain ⟨hq1, hq2⟩ := List.getElem?_eq_some_iff.1 hq
    rw [List.getElem_range] at hq2
    rw [hq, ← hq2, Nat.mul_one]
    rfl
   have hbuilt : C.P.built t (parts.map fun (i, x) => (i, a.eval x)).toList = some vs'.toArray := by
    simp only [Program.built, h1, hu, h5, g1]
    have q4 := (fill_congr (p := ((idxF ti.alen).toArray[·]?)) (p' := fun i => some (i * ie.size, ie.size)) (cells := z.cells) hin).symm.trans (by simpa using q1)
    simpa using q4
   refine wp_build t parts ho (by rw [hbuilt]; rfl) ?_
   rw [hbuilt]
   refine hK _ _ _ hvc (St_put h hd (ofCells_R q2 q3) ?_)
   intro κ hκ
   have hκ := ofCells_keys hκ
   refine fill_keys h _ _ _ ef (fun κ hκ => ?_) κ hκ
   have := cells_keys ecs hκ
   simp [SV.keys] at this
  | false =>
  rw [hk3] at hvc
  simp only [cond_false] at hvc
  obtain ⟨hk, hone, hvc⟩ := hvc
  split at hvc
  ·rename_i cs ecs
   split at hvc
   ·rename_i cs' ef
    obtain ⟨i, d, z, h1, h2, h3, h4, h5, h6, h7, h8, _, _⟩ := (hC.ty _ _ eT).out
    have hz : R ok β w (.p ti.zero) z := by rw [← h6]; exact cv_R z
    have hzo := RP_one (by rw [R] at hz; exact hz)
    cases d <;> simp only [KindOk] at h8
    case struct fs =>
     have hcs := cells_R hz ecs
     have hrp : RL ok β w ((parts.toList.map fun x => (x.1, s.ev x.2)).map (·.2)) ((parts.toList.map fun x => (x.1, a.eval x.2)).map (·.2)) := by
      induction parts.toList with
      | nil => trivial
      | cons x l ih => exact ⟨ev_R h x.2, ih⟩
     obtain ⟨vs', g1, g2, g3⟩ := fill_R (ok := ok) (β := β) (w := w) (vparts := parts.toList.map fun x => (x.1, a.eval x.2)) ef hone (by simp [Function.comp_def]) hrp hcs hzo.1
     have hbuilt : C.P.built t (parts.map fun (i, x) => (i, a.eval x)).toList = some vs'.toArray := by
      simp only [Program.built, h1, h2, h5, places_eq h8.2.2.1]
      rw [← g1]
      simp
     refine wp_build t parts ho (by rw [hbuilt]; rfl) ?_
     rw [hbuilt]
     refine hK _ _ _ hvc (St_put h hd (ofCells_R g2 g3) ?_)
     intro κ hκ
     have hκ := ofCells_keys hκ
     refine fill_keys h _ _ _ ef (fun κ hκ => ?_) κ hκ
     have := cells_keys ecs hκ
     simp [SV.keys] at this
    all_goals omega
   ·exact hvc.elim
  ·exact hvc.elim
theorem op_alloc (hC : CxOk C) {t : TypeId} (ho : o.op = .alloc t) (h : StO C n F ok0 w0 ok β s a w) (hd : ∀ d, o.dst = some d → d < n) (hvc : VC C own o s.ev s.η k)
  (hK : ∀ u a' w', k u → St C n F ok0 w0 (s.app o.dst u) a' w' → K a' w') : o.wp C.P a w K Q := by
 simp only [VC, ho] at hvc
 split at hvc
 ·rename_i d ti ed eT
  split at hvc
  ·rename_i eη
   obtain ⟨z, h1, h2, h3, h4, hag⟩ := (hC.ty _ _ eT).zero w
   have hz : R ok β w (.p ti.zero) z := by rw [← h2]; exact cv_R z
   have hzo := RP_one (by rw [R] at hz; exact hz)
   refine wp_value (v := .pointer (some ⟨w.heap.size, 0, none⟩)) (w' := w.alloc (.cells z.cells t)) ?_ (hK _ _ _ hvc ?_)
   ·simp [execOp, ho, Instr.alloc, h1, newVar, newRow]
   ·rw [ed]
    exact ⟨ok, _, h.alloc hC (hd d ed) eη hz hzo.1 (fun ti' e' => by rw [eT] at e'; cases e'; exact ⟨h3, hag, h4⟩) (by intro κ hκ; cases hκ)⟩
  ·exact hvc.elim
 ·exact hvc.elim
theorem op_box (hC : CxOk C) {t : TypeId} {x : Operand} (ho : o.op = .box t x) (h : StO C n F ok0 w0 ok β s a w) (hd : ∀ d, o.dst = some d → d < n) (hvc : VC C own o s.ev s.η k)
  (hK : ∀ u a' w', k u → St C n F ok0 w0 (s.app o.dst u) a' w' → K a' w') : o.wp C.P a w K Q := by
 simp only [VC, ho] at hvc
 split at hvc
 ·rename_i d ti ed eT
  split at hvc
  ·rename_i eη
   obtain ⟨hsh, hvc⟩ := hvc
   have hr := ev_R h x
   obtain ⟨g1, g2, g3, g4⟩ := R_shape hr hsh
   refine wp_value (v := .pointer (some ⟨w.heap.size, 0, none⟩)) (w' := w.alloc (.cells (a.eval x).cells t)) ?_ (hK _ _ _ hvc ?_)
   ·simp [execOp, ho, Instr.box, newVar, newRow]
   ·rw [ed]
    exact ⟨ok, _, h.alloc hC (hd d ed) eη hr g1 (fun ti' e' => by rw [eT] at e'; cases e'; exact ⟨g2, g3, g4⟩) (ev_keys h x)⟩
  ·exact hvc.elim
 ·exact hvc.elim
end
end Go.Vc
namespace Go.Vc
open Go Go.RowKit
section
variable {C : Cx} {n : Nat} {F : Fm} {ok0 : Nat → Prop} {w0 : World} {ok : Nat → Prop} {β : Nat → Value} {s : S} {a : Act} {w : World} {own : Nat → Bool} {o : Oper} {k : U → Prop} {K : Act → World → Prop} {Q : Exit → Act → World → Prop}
theorem row_lst {ok ok' : Nat → Prop} {base t sz : Nat} {v : Value} {L : List PV} {xs : List Value} (h : w.ownsRow base t sz v L.length xs) (hr : RRow ok w sz L xs) (hok : ∀ b, ok b → ok' b) (hb : ∀ b, v.ownBlock = some b → ok' b) : RP ok' w (.lst L) v := by
 rw [RP]
 rcases h.2 with ⟨rfl, h0⟩ | ⟨g, cap, cur, rfl, hg, hh, h1, h2, h3, h4⟩
 ·have : L = [] := List.eq_nil_of_length_eq_zero h0
  subst this
  exact ⟨none, 0, sz, rfl, Nat.le_refl _, by simp [maxLen], trivial⟩
 ·refine ⟨_, cap, sz, rfl, h1, h2, RPE_of fun i x hx => ?_⟩
  obtain ⟨c, hc, he⟩ := hr.2 i x hx
  have hlt : i < L.length := (List.getElem?_eq_some_iff.1 hx).1
  have hmul : i * sz + sz ≤ L.length * sz := by
   rw [← Nat.succ_mul]
   exact Nat.mul_le_mul_right _ hlt
  have hsz : c.cells.size = sz := by
   have := congrArg List.length he
   rw [List.length_take, List.length_drop, hr.1] at this
   simp at this
   omega
  refine ⟨_, c, rfl, hb g rfl, RP_stay hok (Stay.refl _ _) hc, hsz, fun j u hj => ?_⟩
  rw [add_plain]
  simp only [World.cell?, hh]
  have hj' : c.cells.toList[j]? = some u := by simpa using hj
  rw [he] at hj'
  have h5 := getElem?_sub hj'
  rw [← h4, List.getElem?_take] at h5
  split at h5
  ·simpa using h5
  ·cases h5
theorem StO.world (hC : CxOk C) (h : StO C n F ok0 w0 ok β s a w) {w' : World} {ok' : Nat → Prop} (hbel : Keep F w0 w') (hsz : w.heap.size ≤ w'.heap.size)
  (hkeep : ∀ b, b < w.heap.size → (ok b ∨ ∃ κ, (s.η κ).live = true ∧ blockOf (β κ) = some b) → w'.heap[b]? = w.heap[b]?) (hok : ∀ b, ok b → ok' b)
  (hok' : ∀ b, ok' b → ok b ∨ (b < w'.heap.size ∧ may F w0 b ∧ ∀ κ, (s.η κ).live = true → blockOf (β κ) ≠ some b)) : StO C n F ok0 w0 ok' β s a w' := by
 have hst : Stay ok w w' := fun b hb hlt => hkeep b hlt (.inl hb)
 exact
  {lt := fun b hb => by
    rcases hok' b hb with h1 | h1
    ·exact Nat.lt_of_lt_of_le (h.lt b h1) hsz
    ·exact h1.1
   new := fun b hb => by
    rcases hok' b hb with h1 | h1
    ·exact h.new b h1
    ·exact .inr h1.2.1
   old := fun b hb => hok b (h.old b hb)
   gx := GX_stay hC h.gx hst h.lt hok
   defers := h.defers
   size := h.size
   ρ := fun t => R_stay hok hst (h.ρ t)
   η := fun κ => OB_move (h.η κ) (fun _ => rfl) (fun _ _ => rfl) hok hst (fun b hl hb hlt => hkeep b hlt (.inr ⟨κ, hl, hb⟩)) (fun b hl hb hlt hn hc => by
    rcases hok' b hc with h1 | h1
    ·exact hn h1
    ·exact h1.2.2 κ hl hb)
   ro := h.ro
   dis := h.dis
   wf := h.wf
   below := hbel
   n2 := h.n2
   pin := h.pin }
theorem StO.addrow (h : StO C n F ok0 w0 ok β s a w) {d q : Nat} (hd : d < n) (hq : q < 2000) (hno : s.η q = .no) {t sz : Nat} {L : List PV} {v : Value} {xs : List Value} (h0 : 0 < sz) (hrow : w.ownsRow 0 t sz v L.length xs) (hr : RRow ok w sz L xs)
  (hb : ∀ b, v.ownBlock = some b → ¬ ok b ∧ may F w0 b ∧ ∀ κ, (s.η κ).live = true → blockOf (β κ) ≠ some b) :
  StO C n F ok0 w0 ok (fun k => if k = q then v else β k) ((s.set q (.row t sz L)).put d (.slc q)) (a.put (some d) v) w := by
 have hkd2 : ∀ κ, (s.η κ).live = true → κ ≠ q := by
  rintro κ hl rfl
  rw [hno] at hl
  simp [AO.live] at hl
 have hsl : ∃ A m c, v = .slice A m c := by
  rcases hrow.2 with ⟨h1, _⟩ | ⟨g, cap, cur, h1, _⟩
  ·exact ⟨_, _, _, h1⟩
  ·exact ⟨_, _, _, h1⟩
 have hvb : ∀ b, blockOf v = some b → v.ownBlock = some b := by
  intro b hb'
  obtain ⟨A, m, c, rfl⟩ := hsl
  cases A with
  | none => simp [blockOf] at hb'
  | some ad => simpa [blockOf, Value.ownBlock] using hb'
 refine { h with
   defers := h.defers
   size := by simp [Act.put, h.size]
   ρ := ?_
   η := ?_
   ro := ?_
   dis := ?_
   wf := ?_
   pin := fun κ hκ => by show (if κ = q then v else β κ) = _; rw [if_neg (by omega)]; exact h.pin κ hκ }
 ·intro t'
  rw [S.put_ρ, eval_put (by rw [h.size]; exact hd)]
  by_cases e : t' = d
  ·rw [if_pos e, if_pos e, R, if_pos rfl]
   exact ⟨rfl, by obtain ⟨A, m, c, rfl⟩ := hsl; rfl⟩
  ·rw [if_neg e, if_neg e]
   exact R_keys (fun κ hκ => if_neg (hkd2 κ (h.wf.ρ t' κ hκ))) (h.ρ t')
 ·intro κ
  show OB C ok _ _ _ κ ((s.set q _).η κ)
  rw [S.set_η]
  by_cases e : κ = q
  ·rw [if_pos e]
   subst e
   refine ⟨h0, ⟨xs, by simpa using hrow, hr⟩, ?_⟩
   intro b hb'
   exact ⟨(hb b (by simpa using hb')).1, (hb b (by simpa using hb')).2.1⟩
  ·rw [if_neg e]
   exact OB_move (h.η κ) (fun _ => if_neg e) (fun κ' hκ' => if_neg (hkd2 κ' (h.wf.η κ κ' hκ'))) (fun _ h => h) (Stay.refl _ _) (fun b _ _ hlt => rfl) (fun b _ _ _ hn => hn)
 ·intro κ t' x b hη hbk
  change (s.set q _).η κ = _ at hη
  rw [S.set_η] at hη
  by_cases e : κ = q
  ·rw [if_pos e] at hη; cases hη
  ·rw [if_neg e] at hη
   rw [if_neg e] at hbk
   exact h.ro κ t' x b hη hbk
 ·intro κ κ' b hm hm' hbk hbk'
  change ((s.set q _).η κ).mine = true at hm
  change ((s.set q _).η κ').mine = true at hm'
  rw [S.set_η] at hm hm'
  by_cases e : κ = q <;> by_cases e' : κ' = q
  ·rw [e, e']
  ·rw [if_pos e] at hbk
   rw [if_neg e'] at hbk' hm'
   exact absurd hbk' ((hb b (hvb b hbk)).2.2 κ' (mine_live hm'))
  ·rw [if_pos e'] at hbk'
   rw [if_neg e] at hbk hm
   exact absurd hbk ((hb b (hvb b hbk')).2.2 κ (mine_live hm))
  ·rw [if_neg e] at hbk hm
   rw [if_neg e'] at hbk' hm'
   exact h.dis κ κ' b hm hm' hbk hbk'
 ·have hl : ∀ κ, (s.η κ).live = true → ((s.set q (.row t sz L)).η κ).live = true := by
   intro κ hκ
   rw [S.set_η, if_neg (hkd2 κ hκ)]
   exact hκ
  refine WF.put ⟨fun t' κ hκ => hl κ (h.wf.ρ t' κ hκ), fun t' κ hκ => ?_⟩ ?_
  ·rw [S.set_η] at hκ
   split at hκ
   ·simp [AO.keys] at hκ
   ·exact hl κ (h.wf.η t' κ hκ)
  ·intro κ hκ
   simp [SV.keys] at hκ
   subst hκ
   rw [S.set_η, if_pos rfl]
   rfl
theorem StO.addobj (h : StO C n F ok0 w0 ok β s a w) {d q : Nat} (hd : d < n) (hq : q < 2000) (hno : s.η q = .no) {o' : AO} {v : Value} (hv : one v) (hm' : o'.mine = true)
  (hob : ∀ β' : Nat → Value, (∀ κ, (s.η κ).live = true → β' κ = β κ) → β' q = v → OB C ok β' w (may F w0) q o') (hk : ∀ κ ∈ o'.keys, (s.η κ).live = true)
  (hb : ∀ b, blockOf v = some b → ∀ κ, (s.η κ).live = true → blockOf (β κ) ≠ some b) :
  StO C n F ok0 w0 ok (fun k => if k = q then v else β k) ((s.set q o').put d (.slc q)) (a.put (some d) v) w := by
 have hkd2 : ∀ κ, (s.η κ).live = true → κ ≠ q := by
  rintro κ hl rfl
  rw [hno] at hl
  simp [AO.live] at hl
 refine { h with
   defers := h.defers
   size := by simp [Act.put, h.size]
   ρ := ?_
   η := ?_
   ro := ?_
   dis := ?_
   wf := ?_
   pin := fun κ hκ => by show (if κ = q then v else β κ) = _; rw [if_neg (by omega)]; exact h.pin κ hκ }
 ·intro t'
  rw [S.put_ρ, eval_put (by rw [h.size]; exact hd)]
  by_cases e : t' = d
  ·rw [if_pos e, if_pos e, R, if_pos rfl]
   exact ⟨rfl, hv⟩
  ·rw [if_neg e, if_neg e]
   exact R_keys (fun κ hκ => if_neg (hkd2 κ (h.wf.ρ t' κ hκ))) (h.ρ t')
 ·intro κ
  show OB C ok _ _ _ κ ((s.set q _).η κ)
  rw [S.set_η]
  by_cases e : κ = q
  ·rw [if_pos e]
   subst e
   exact hob _ (fun κ' hl => if_neg (hkd2 κ' hl)) (if_pos rfl)
  ·rw [if_neg e]
   exact OB_move (h.η κ) (fun _ => if_neg e) (fun κ' hκ' => if_neg (hkd2 κ' (h.wf.η κ κ' hκ'))) (fun _ h => h) (Stay.refl _ _) (fun b _ _ hlt => rfl) (fun b _ _ _ hn => hn)
 ·intro κ t' x b hη hbk
  change (s.set q _).η κ = _ at hη
  rw [S.set_η] at hη
  by_cases e : κ = q
  ·rw [if_pos e] at hη; subst hη; cases hm'
  ·rw [if_neg e] at hη
   rw [if_neg e] at hbk
   exact h.ro κ t' x b hη hbk
 ·intro κ κ' b hm hm' hbk hbk'
  change ((s.set q _).η κ).mine = true at hm
  change ((s.set q _).η κ').mine = true at hm'
  rw [S.set_η] at hm hm'
  by_cases e : κ = q <;> by_cases e' : κ' = q
  ·rw [e, e']
  ·rw [if_pos e] at hbk
   rw [if_neg e'] at hbk' hm'
   exact absurd hbk' (hb b hbk κ' (mine_live hm'))
  ·rw [if_pos e'] at hbk'
   rw [if_neg e] at hbk hm
   exact absurd hbk (hb b hbk' κ (mine_live hm))
  ·rw [if_neg e] at hbk hm
   rw [if_neg e'] at hbk' hm'
   exact h.dis κ κ' b hm hm' hbk hbk'
 ·have hl : ∀ κ, (s.η κ).live = true → ((s.set q o').η κ).live = true := by
   intro κ hκ
   rw [S.set_η, if_neg (hkd2 κ hκ)]
   exact hκ
  refine WF.put ⟨fun t' κ hκ => hl κ (h.wf.ρ t' κ hκ), fun t' κ hκ => ?_⟩ ?_
  ·rw [S.set_η] at hκ
   split at hκ
   ·exact hl κ (hk κ hκ)
   ·exact hl κ (h.wf.η t' κ hκ)
  ·intro κ hκ
   simp [SV.keys] at hκ
   subst hκ
   rw [S.set_η, if_pos rfl]
   exact mine_live hm'
mutual
theorem men_keys : ∀ (x : SV) (κ : Nat), x.men κ = false → κ ∉ x.keys
 | .no, κ, _ => by simp [SV.keys]
 | .p _, κ, _ => by simp [SV.keys]
 | .elt _, κ, _ => by simp [SV.keys]
 | .eltF _ _, κ, _ => by simp [SV.keys]
 | .glob _, κ, _ => by simp [SV.keys]
 | .nilQ _, κ, _ => by simp [SV.keys]
 | .ptr κ' _, κ, h => by
  simp only [SV.keys, List.mem_singleton]
  rintro rfl
  simp [SV.men] at h
 | .slc κ', κ, h => by
  simp only [SV.keys, List.mem_singleton]
  rintro rfl
  simp [SV.men] at h
 | .rowE κ' _ _, κ, h => by
  simp only [SV.keys, List.mem_singleton]
  rintro rfl
  simp [SV.men] at h
 | .tl κ' _ _, κ, h => by
  simp only [SV.keys, List.mem_singleton]
  rintro rfl
  simp [SV.men] at h
 | .fn _ caps, κ, h => by simpa [SV.keys] using menL_keys caps κ (by simpa [SV.men] using h)
 | .mix cs, κ, h => by simpa [SV.keys] using menL_keys cs κ (by simpa [SV.men] using h)
 | .tupS cs, κ, h => by simpa [SV.keys] using menL_keys cs κ (by simpa [SV.men] using h)
theorem menL_keys : ∀ (l : List SV) (κ : Nat), SV.menL κ l = false → κ ∉ SV.keysL l
 | [], κ, _ => by simp [SV.keysL]
 | x :: xs, κ, h => by
  simp only [SV.menL, Bool.or_eq_false_iff] at h
  simp only [SV.keysL, List.mem_append, not_or]
  exact ⟨men_keys x κ h.1, menL_keys xs κ h.2⟩
end
theorem purgeC_keys {x : SV} {κ κ' : Nat} (h : κ' ∈ (cond (x.men κ) SV.no x).keys) : κ' ∈ x.keys ∧ κ' ≠ κ := by
 cases e : x.men κ with
 | true => rw [e] at h; simp [SV.keys] at h
 | false =>
  rw [e] at h
  refine ⟨h, ?_⟩
  rintro rfl
  exact men_keys x κ' e h
theorem purgeL_keys {κ κ' : Nat} : ∀ {cs : List SV}, κ' ∈ SV.keysL (cs.map fun x => cond (x.men κ) SV.no x) → κ' ∈ SV.keysL cs ∧ κ' ≠ κ
 | [], h => by simp [SV.keysL] at h
 | x :: cs, h => by
  simp only [List.map_cons, SV.keysL, List.mem_append] at h ⊢
  rcases h with h | h
  ·exact ⟨.inl (purgeC_keys h).1, (purgeC_keys h).2⟩
  ·exact ⟨.inr (purgeL_keys h).1, (purgeL_keys h).2⟩
theorem purge_keys {x : SV} {κ κ' : Nat} (h : κ' ∈ (x.purge κ).keys) : κ' ∈ x.keys ∧ κ' ≠ κ := by
 cases x with
 | mix cs => exact purgeL_keys (by simpa only [SV.purge, SV.keys] using h)
 | _ => exact purgeC_keys h
theorem purgeC_R {x : SV} {κ : Nat} {v : Value} (h : R ok β w x v) : R ok β w (cond (x.men κ) SV.no x) v := by
 cases x.men κ with
 | true => trivial
 | false => exact h
theorem purgeL_R {κ : Nat} : ∀ {cs : List SV} {vs : List Value}, RL ok β w cs vs → RL ok β w (cs.map fun x => cond (x.men κ) SV.no x) vs
 | [], [], h => trivial
 | [], _ :: _, h => h.elim
 | _ :: _, [], h => h.elim
 | x :: cs, v :: vs, h => ⟨purgeC_R h.1, purgeL_R h.2⟩
theorem purge_R {x : SV} {κ : Nat} {v : Value} (h : R ok β w x v) : R ok β w (x.purge κ) v := by
 cases x with
 | mix cs =>
  rw [R] at h
  obtain ⟨vs, h1, h2, h3⟩ := h
  show R ok β w (.mix _) v
  rw [R]
  exact ⟨vs, h1, h2, purgeL_R h3⟩
 | _ => exact purgeC_R (κ := κ) h
theorem kill_live {κ κ' : Nat} : ((s.kill κ).η κ').live = true ↔ (s.η κ').live = true ∧ κ' ≠ κ := by
 show AO.live (cond (Nat.beq κ' κ) .no ((s.η κ').purge κ)) = true ↔ _
 rw [beq_ite]
 split
 ·rename_i e; simp [AO.live, e]
 ·rename_i e
  cases s.η κ' <;> simp [AO.purge, AO.live, e]
theorem StO.kill (h : StO C n F ok0 w0 ok β s a w) (κ : Nat) : StO C n F ok0 w0 ok β (s.kill κ) a w := by
 refine { h with
   defers := h.defers
   ρ := fun t => purge_R (h.ρ t)
   η := ?_
   ro := ?_
   dis := ?_
   wf := ?_ }
 ·intro κ'
  show OB C ok _ _ _ κ' (cond (Nat.beq κ' κ) .no ((s.η κ').purge κ))
  rw [beq_ite]
  split
  ·trivial
  ·have := h.η κ'
   cases e : s.η κ' with
   | no => trivial
   | row t sz L => rw [e] at this; exact this
   | mp t sk L => rw [e] at this; exact this
   | it l pos => rw [e] at this; exact this
   | ms t0 sk0 L0 B0 c0 m0 => rw [e] at this; exact this
   | mi κ0 m0 s0 q0 l0 => rw [e] at this; exact this
   | fm t ks xs =>
    rw [e] at this
    obtain ⟨r, es, clock, h1, h2, h3, h4, h5, h6, h7⟩ := this
    exact ⟨r, es, clock, h1, h2, h3, h4, h5, purgeL_R h6, h7⟩
   | rp t xs =>
    rw [e] at this
    obtain ⟨⟨vs, h1, h2, h3, h4⟩, h5⟩ := this
    refine ⟨⟨vs, ?_, ?_, h3, purgeL_R h4⟩, h5⟩
    ·rw [List.length_map]; exact h1
    ·rw [List.length_map]; exact h2
   | var own t x =>
    rw [e] at this
    obtain ⟨b, v, h1, h2, h3, h4⟩ := this
    exact ⟨b, v, h1, h2, purge_R h3, h4⟩
 ·intro κ' t x b hη hb
  change cond (Nat.beq κ' κ) .no ((s.η κ').purge κ) = _ at hη
  rw [beq_ite] at hη
  split at hη
  ·cases hη
  ·cases e : s.η κ' with
   | no => rw [e] at hη; cases hη
   | row t sz L => rw [e] at hη; cases hη
   | mp t sk L => rw [e] at hη; cases hη
   | it l pos => rw [e] at hη; cases hη
   | ms t0 sk0 L0 B0 c0 m0 => rw [e] at hη; cases hη
   | mi κ0 m0 s0 q0 l0 => rw [e] at hη; cases hη
   | fm t ks xs => rw [e] at hη; cases hη
   | rp t xs => rw [e] at hη; cases hη
   | var own t' x' =>
    rw [e] at hη
    simp only [AO.purge, AO.var.injEq] at hη
    obtain ⟨rfl, rfl, _⟩ := hη
    exact h.ro κ' _ _ b e hb
 ·have hm : ∀ q, ((s.kill κ).η q).mine = true → (s.η q).mine = true := by
   intro q hq
   change AO.mine (cond (Nat.beq q κ) .no ((s.η q).purge κ)) = true at hq
   rw [beq_ite] at hq
   split at hq
   ·simp [AO.mine] at hq
   ·cases e : s.η q <;> simp_all [AO.purge, AO.mine]
  exact fun q q' b h1 h2 h3 h4 => h.dis q q' b (hm q h1) (hm q' h2) h3 h4
 ·refine ⟨fun t q hq => ?_, fun t q hq => ?_⟩
  ·obtain ⟨h1, h2⟩ := purge_keys hq
   exact kill_live.2 ⟨h.wf.ρ t q h1, h2⟩
  ·change q ∈ AO.keys (cond (Nat.beq t κ) .no ((s.η t).purge κ)) at hq
   rw [beq_ite] at hq
   split at hq
   ·simp [AO.keys] at hq
   ·cases e : s.η t with
    | no => rw [e] at hq; simp [AO.purge, AO.keys] at hq
    | row t sz L => rw [e] at hq; simp [AO.purge, AO.keys] at hq
    | mp t sk L => rw [e] at hq; simp [AO.purge, AO.keys] at hq
    | it l pos => rw [e] at hq; simp [AO.purge, AO.keys] at hq
    | ms t0 sk0 L0 B0 c0 m0 => rw [e] at hq; simp [AO.purge, AO.keys] at hq
    | mi κ0 m0 s0 q0 l0 => rw [e] at hq; simp [AO.purge, AO.keys] at hq
    | fm t' ks xs =>
     rw [e] at hq
     obtain ⟨h1, h2⟩ := purgeL_keys (cs := xs) hq
     exact kill_live.2 ⟨h.wf.η t q (by rw [e]; exact h1), h2⟩
    | rp t' xs =>
     rw [e] at hq
     obtain ⟨h1, h2⟩ := purgeL_keys (cs := xs) hq
     exact kill_live.2 ⟨h.wf.η t q (by rw [e]; exact h1), h2⟩
    | var own t' x' =>
     rw [e] at hq
     obtain ⟨h1, h2⟩ := purge_keys (x := x') hq
     exact kill_live.2 ⟨h.wf.η t q (by rw [e]; exact h1), h2⟩
end
end Go.Vc
namespace Go.Vc
open Go Go.RowKit
section
variable {C : Cx} {n : Nat} {F : Fm} {ok0 : Nat → Prop} {w0 : World} {ok : Nat → Prop} {β : Nat → Value} {s : S} {a : Act} {w : World} {own : Nat → Bool} {o : Oper} {k : U → Prop} {K : Act → World → Prop} {Q : Exit → Act → World → Prop}
def flat (vs : List Value) : List Value := vs.flatMap fun v => v.cells.toList
theorem flat_length {sz : Nat} : ∀ {vs : List Value}, (∀ v ∈ vs, v.cells.size = sz) → (flat vs).length = vs.length * sz
 | [], _ => by simp [flat]
 | v :: vs, h => by
  have ih := flat_length (vs := vs) fun u hu => h u (List.mem_cons_of_mem _ hu)
  have h1 := h v (List.mem_cons_self ..)
  simp only [flat, List.flatMap_cons, List.length_append, List.length_cons] at ih ⊢
  rw [ih, Nat.succ_mul]
  simp [h1]
  omega
theorem flat_get {sz : Nat} : ∀ {vs : List Value} {i : Nat} {v : Value}, (∀ v ∈ vs, v.cells.size = sz) → vs[i]? = some v → ((flat vs).drop (i * sz)).take sz = v.cells.toList
 | [], i, v, _, h => by simp at h
 | u :: vs, 0, v, hs, h => by
  simp at h
  subst h
  have h1 := hs u (List.mem_cons_self ..)
  simp only [flat, List.flatMap_cons, Nat.zero_mul, List.drop_zero]
  rw [List.take_append_of_le_length (by simp [h1])]
  rw [List.take_of_length_le (by simp [h1])]
 | u :: vs, i + 1, v, hs, h => by
  have ih := flat_get (i := i) (v := v) (fun u hu => hs u (List.mem_cons_of_mem _ hu)) (by simpa using h)
  have h1 := hs u (List.mem_cons_self ..)
  simp only [flat, List.flatMap_cons] at ih ⊢
  rw [Nat.succ_mul, List.drop_append, List.drop_eq_nil_of_le (by simp [h1])]
  simp only [List.nil_append, Array.length_toList, h1]
  rw [show i * sz + sz - sz = i * sz by omega]
  exact ih
theorem fill_row {sz : Nat} : ∀ {vs : List Value} {j : Nat} {cells : List Value}, (∀ v ∈ vs, v.cells.size = sz) → (j + vs.length) * sz ≤ cells.length →
  Instr.fill (fun i => some (i * sz, sz)) cells.toArray ((vs.zipIdx j).map fun x => (x.2, x.1)) = some (cells.take (j * sz) ++ flat vs ++ cells.drop ((j + vs.length) * sz)).toArray
 | [], j, cells, _, h => by simp [Instr.fill, flat]
 | v :: vs, j, cells, hs, h => by
  have h1 := hs v (List.mem_cons_self ..)
  have hle : j * sz + sz + vs.length * sz ≤ cells.length := by
   simp only [List.length_cons] at h
   rw [show (j + (vs.length + 1)) * sz = j * sz + sz + vs.length * sz by rw [Nat.add_mul, Nat.succ_mul]; omega] at h
   exact h
  simp only [List.zipIdx_cons, List.map_cons, Instr.fill, h1, List.size_toArray]
  rw [if_neg (by simp; omega)]
  have hf : Array.foldl (fun cs (x : Value × Nat) => cs.setIfInBounds (j * sz + x.2) x.1) cells.toArray v.cells.zipIdx = (cells.take (j * sz) ++ v.cells.toList ++ cells.drop (j * sz + sz)).toArray := by
   rw [← Array.foldl_toList, Array.toList_zipIdx]
   have := foldl_put v.cells.toList 0 (j * sz) cells (by simp [h1]; omega)
   simpa [h1] using this
  rw [hf, fill_row (fun u hu => hs u (List.mem_cons_of_mem _ hu)) (by
   simp [h1]
   rw [show (j + 1 + vs.length) * sz = j * sz + sz + vs.length * sz by rw [Nat.add_mul, Nat.add_mul]; omega]
   omega)]
  congr 2
  have e1 : (j + 1) * sz = j * sz + sz := by rw [Nat.add_mul]; omega
  have e2 : (j + 1 + vs.length) * sz = j * sz + sz + vs.length * sz := by rw [Nat.add_mul, Nat.add_mul]; omega
  have e3 : (j + (v :: vs).length) * sz = j * sz + sz + vs.length * sz := by simp only [List.length_cons]; rw [Nat.add_mul, Nat.add_mul]; omega
  have hl : (cells.take (j * sz) ++ v.cells.toList).length = j * sz + sz := by simp [h1]; omega
  rw [e1, e2, e3]
  rw [List.take_append_of_le_length (by omega), List.take_of_length_le (by omega)]
  rw [List.drop_append, List.drop_eq_nil_of_le (by omega), hl, List.nil_append, List.drop_drop]
  simp only [flat, List.flatMap_cons, List.append_assoc]
  congr 3
  congr 1
  omega
theorem toP1_R {x : SV} {y : PV} {v : Value} (e : toP1 x = some y) (h : R ok β w x v) : RP ok w y v := by
 unfold toP1 at e
 split at e
 ·cases e; exact h
 ·cases e
  rw [R] at h
  obtain ⟨vs, rfl, h2⟩ := h
  cases vs with
  | nil => rw [RP]; exact ⟨rfl, rfl⟩
  | cons _ _ => exact h2.elim
 ·cases e
theorem partsS_spec (h : StO C n F ok0 w0 ok β s a w) : ∀ {parts : List (Nat × Operand)} {j : Nat} {xs : List SV}, partsS s.ev j parts = some xs →
  ∃ vs, RL ok β w xs vs ∧ (∀ v ∈ vs, one v) ∧ (∀ κ ∈ SV.keysL xs, (s.η κ).live = true) ∧ parts.map (fun x => (x.1, a.eval x.2)) = (vs.zipIdx j).map fun x => (x.2, x.1)
 | [], j, xs, e => by
  simp only [partsS, Option.some.injEq] at e
  subst e
  exact ⟨[], trivial, by simp, by simp [SV.keysL], rfl⟩
 | (i, x) :: r, j, xs, e => by
  simp only [partsS] at e
  rw [beq_ite] at e
  split at e
  ·rename_i hij
   subst hij
   split at e
   ·rename_i esh
    obtain ⟨M, e2, rfl⟩ := Option.map_eq_some_iff.1 e
    obtain ⟨vs, h1, h2, h3, h4⟩ := partsS_spec h e2
    have hr := ev_R h x
    have ho := (R_shape hr esh).2.2.2 rfl
    refine ⟨a.eval x :: vs, ⟨hr, h1⟩, ?_, ?_, ?_⟩
    ·intro v hv
     cases hv with
     | head => exact ho
     | tail _ hv => exact h2 v hv
    ·intro κ hκ
     simp only [SV.keysL, List.mem_append] at hκ
     rcases hκ with hκ | hκ
     ·exact ev_keys h x κ hκ
     ·exact h3 κ hκ
    ·simp [h4]
   ·cases e
  ·cases e
theorem partsIn_spec (h : StO C n F ok0 w0 ok β s a w) : ∀ {parts : List (Nat × Operand)} {j : Nat} {L : List PV}, partsIn s.ev j parts = some L →
  ∃ vs, RPL ok w L vs ∧ parts.map (fun x => (x.1, a.eval x.2)) = (vs.zipIdx j).map fun x => (x.2, x.1)
 | [], j, L, e => by
  simp only [partsIn, Option.some.injEq] at e
  subst e
  exact ⟨[], trivial, rfl⟩
 | (i, x) :: r, j, L, e => by
  simp only [partsIn] at e
  rw [beq_ite] at e
  split at e
  ·rename_i hij
   subst hij
   split at e
   ·rename_i y ey
    obtain ⟨M, e2, rfl⟩ := Option.map_eq_some_iff.1 e
    obtain ⟨vs, h1, h2⟩ := partsIn_spec h e2
    have hr := toP1_R ey (ev_R h x)
    refine ⟨a.eval x :: vs, ⟨hr, h1⟩, ?_⟩
    simp [h2]
   ·cases e
  ·cases e
theorem allSz_sizes {sh : Bool × Nat} : ∀ {L : List PV} {vs : List Value}, allSz sh L → RPL ok w L vs → ∀ v ∈ vs, v.cells.size = sh.2
 | [], [], _, _ => fun v hv => by cases hv
 | [], _ :: _, _, h => h.elim
 | _ :: _, [], _, h => h.elim
 | z :: L, u :: vs, h, hr => fun v hv => by
  cases hv with
  | head => rw [(RP_one hr.1).2.1, h.1]
  | tail _ hv => exact allSz_sizes h.2 hr.2 v hv
theorem RRow_flat {sz : Nat} {L : List PV} {vs : List Value} (h : RPL ok w L vs) (hs : ∀ v ∈ vs, v.cells.size = sz) : RRow ok w sz L (flat vs) := by
 refine ⟨by rw [flat_length hs, RPL_length h], fun i x hx => ?_⟩
 obtain ⟨v, hv, hr⟩ := RPL_get h hx
 exact ⟨v, hr, (flat_get hs hv).symm⟩
theorem run_buildSlice (hC : CxOk C) {t : TypeId} {m : Nat} {parts : Array (Nat × Operand)} {d : Nat} (ho : o.op = .buildSlice t m parts) {ti te : TI} (eT : C.T t = some ti) (eE : C.T ti.elem = some te) (hk : ti.k = 2) {vs : List Value} (hlen : vs.length = m) (hle : m * te.sz ≤ 16777216)
  (hparts : parts.toList.map (fun x => (x.1, a.eval x.2)) = (vs.zipIdx 0).map fun x => (x.2, x.1)) (hsizes : ∀ v ∈ vs, v.cells.size = te.sz) :
  (execOp a.eval o).run C.P w = .ok (.value (.slice (some ⟨w.heap.size, 0, none⟩) m m)) (w.alloc (.cells (flat vs).toArray ti.elem)) := by
 have hu := run_underlying (P := C.P) ((hC.ty _ _ eT).slice hk) w
 have hsz := (hC.ty _ _ eE).size w
 obtain ⟨z, hz, hz2, hz3, _⟩ := (hC.ty _ _ eE).zero w
 let zero : Array Value := if m * te.sz = 0 then #[] else z.cells
 have hfill := fill_row (sz := te.sz) (vs := vs) (j := 0) (cells := (List.range (m * te.sz)).map fun i => zero[i % zero.size]!) hsizes (by simp [hlen])
 have hfl := flat_length hsizes
 simp only [Nat.zero_mul, List.take_zero, List.nil_append, Nat.zero_add] at hfill
 rw [List.drop_eq_nil_of_le (by simp [hlen]), List.append_nil] at hfill
 have hp2 : (parts.map fun x => (x.1, a.eval x.2)).toList = (vs.zipIdx 0).map fun x => (x.2, x.1) := by rw [← hparts]; simp
 have hne : ¬ m * te.sz > 2 ^ 24 := by simp; omega
 have harr : (Array.range (m * te.sz)).map (zero[· % zero.size]!) = ((List.range (m * te.sz)).map fun i => zero[i % zero.size]!).toArray := by
  apply Array.ext'
  simp
 have h2 : (Instr.buildSlice t m (parts.map fun x => (x.1, a.eval x.2))).run C.P w = .ok (.slice (some ⟨w.heap.size, 0, none⟩) m m) (w.alloc (.cells (flat vs).toArray ti.elem)) := by
  by_cases h0 : m * te.sz = 0
  ·have hz0 : zero = #[] := if_pos h0
   simp only [Instr.buildSlice, Sem.run_bind, hu, hsz, Result.andThen_ok, if_neg hne, Sem.run_pure, if_pos h0, hp2]
   rw [← hz0, harr, hfill]
   simp [newRow]
  ·have hz0 : zero = z.cells := if_neg h0
   simp only [Instr.buildSlice, Sem.run_bind, hu, hsz, Result.andThen_ok, if_neg hne, Sem.run_pure, if_neg h0, hp2, hz]
   rw [← hz0, harr, hfill]
   simp [newRow]
 simp only [execOp, ho, Sem.run_bind, h2, Result.andThen_ok, Sem.run_pure]
theorem flat_ofOne : ∀ {vs : List Value}, (∀ v ∈ vs, one v) → flat vs = vs
 | [], _ => rfl
 | v :: vs, h => by
  show v.cells.toList ++ flat vs = _
  rw [flat_ofOne fun u hu => h u (List.mem_cons_of_mem _ hu), one_cells (h v (List.mem_cons_self ..))]
  rfl
theorem op_buildSlice (hC : CxOk C) {t : TypeId} {m : Nat} {parts : Array (Nat × Operand)} (ho : o.op = .buildSlice t m parts) (h : StO C n F ok0 w0 ok β s a w) (hd : ∀ d, o.dst = some d → d < n) (hvc : VC C own o s.ev s.η k)
  (hK : ∀ u a' w', k u → St C n F ok0 w0 (s.app o.dst u) a' w' → K a' w') : o.wp C.P a w K Q := by
 simp only [VC, ho, PV.forceL_eq, SV.forceL_eq] at hvc
 split at hvc
 ·rename_i d ti ed eT
  cases h40 : own (d + 400000) with
  | true =>
   rw [h40] at hvc
   simp only [cond_true] at hvc
   split at hvc
   ·rename_i te xs eE eL eη
    obtain ⟨hk, rfl, hle, hs1, hvc⟩ := hvc
    obtain ⟨vs, hr, hone, hkeys, hparts⟩ := partsS_spec h eL
    have hlen := RL_length hr
    have hsizes : ∀ v ∈ vs, v.cells.size = te.sz := fun v hv => by rw [one_cells (hone v hv), hs1]; rfl
    have hrun := run_buildSlice (w := w) hC (d := d) ho eT eE hk hlen (by rw [hs1]; omega) hparts hsizes
    rw [flat_ofOne hone] at hrun
    have hb : Below w.heap.size w (w.alloc (.cells vs.toArray ti.elem)) := (Below.refl _ _).alloc (Nat.le_refl _) _
    have hrow : (w.alloc (.cells vs.toArray ti.elem)).ownsRow 0 ti.elem 1 (.slice (some ⟨w.heap.size, 0, none⟩) xs.length xs.length) xs.length vs := by
     have hm : xs.length ≤ maxLen := by simp only [maxLen]; omega
     have := World.ownsRow_lit (base := 0) (e := ti.elem) (size := 1) w vs.toArray xs.length (Nat.zero_le _) hm (by simp [hlen])
     simpa using this
    have hst : Stay ok w (w.alloc (.cells vs.toArray ti.elem)) := fun b _ hlt => hb.block b hlt
    have h1 := h.world hC (ok' := ok) (below_w h.below hb) hb.size (fun b hlt _ => hb.block b hlt) (fun _ h => h) (fun _ h => .inl h)
    refine wp_value hrun (hK _ _ _ hvc ?_)
    rw [ed]
    refine ⟨ok, _, h1.addobj (hd d ed) (Nat.lt_of_lt_of_le (hd d ed) h.n2) eη rfl rfl (fun β' hβ hq => ⟨⟨vs, by rw [hq]; exact hrow, hlen, hone, RL_keys (fun κ hκ => hβ κ (hkeys κ hκ)) (RL_stay (fun _ h => h) hst hr)⟩, fun b hb' => ?_⟩) hkeys fun b hb' κ hl hbk => ?_⟩
    ·rw [hq] at hb'
     have : b = w.heap.size := by simpa [Value.ownBlock] using hb'.symm
     subst this
     exact ⟨fun hc => by have := h.lt _ hc; omega, .inr h.below.size⟩
    ·have : b = w.heap.size := by simpa [blockOf] using hb'.symm
     subst this
     have := OB_lt (h.η κ) hl hbk
     omega
   ·exact hvc.elim
  | false =>
  rw [h40] at hvc
  simp only [cond_false] at hvc
  split at hvc
  ·rename_i te L eE eL
   obtain ⟨hk, rfl, hle, hpos, hall, hvc⟩ := hvc
   obtain ⟨vs, hr, hparts⟩ := partsIn_spec h eL
   have hsizes := allSz_sizes hall hr
   have hlen := RPL_length hr
   have hrun := run_buildSlice (w := w) hC (d := d) ho eT eE hk hlen hle hparts hsizes
   have hb : Below w.heap.size w (w.alloc (.cells (flat vs).toArray ti.elem)) := (Below.refl _ _).alloc (Nat.le_refl _) _
   have hrow : (w.alloc (.cells (flat vs).toArray ti.elem)).ownsRow 0 ti.elem te.sz (.slice (some ⟨w.heap.size, 0, none⟩) L.length L.length) L.length (flat vs) := by
    have hm : L.length ≤ maxLen := by
     simp only [maxLen]
     have : L.length * 1 ≤ L.length * te.sz := Nat.mul_le_mul_left _ hpos
     omega
    have := World.ownsRow_lit (base := 0) (e := ti.elem) (size := te.sz) w (flat vs).toArray L.length (Nat.zero_le _) hm (by simp [flat_length hsizes, hlen])
    simpa using this
   have hst : Stay ok w (w.alloc (.cells (flat vs).toArray ti.elem)) := fun b _ hlt => hb.block b hlt
   have hrr := RRow_stay (fun _ h => h) hst (RRow_flat hr hsizes)
   cases ho' : own d with
   | true =>
    rw [ho'] at hvc
    simp only [cond_true] at hvc
    split at hvc
    ·rename_i eη
     have h1 := h.world hC (ok' := ok) (below_w h.below hb) hb.size (fun b hlt _ => hb.block b hlt) (fun _ h => h) (fun _ h => .inl h)
     refine wp_value hrun (hK _ _ _ hvc ?_)
     rw [ed]
     refine ⟨ok, _, h1.addrow (hd d ed) (Nat.lt_of_lt_of_le (hd d ed) h.n2) eη hpos hrow hrr fun b hb' => ?_⟩
     have : b = w.heap.size := by simpa [Value.ownBlock] using hb'.symm
     subst this
     exact ⟨fun hc => by have := h.lt _ hc; omega, .inr h.below.size, fun κ hl hbk => by have := OB_lt (h.η κ) hl hbk; omega⟩
    ·exact hvc.elim
   | false =>
    rw [ho'] at hvc
    simp only [cond_false] at hvc
    have h1 := h.world hC (ok' := fun b => ok b ∨ b = w.heap.size) (below_w h.below hb) hb.size (fun b hlt _ => hb.block b hlt) (fun _ h => .inl h) (fun b hb' => by
     rcases hb' with h1 | rfl
     ·exact .inl h1
     ·exact .inr ⟨by simp, .inr h.below.size, fun κ hl hbk => by have := OB_lt (h.η κ) hl hbk; omega⟩)
    refine wp_value hrun (hK _ _ _ hvc ?_)
    rw [ed]
    refine ⟨_, _, h1.put (hd d ed) (row_lst hrow hrr (fun _ h => .inl h) fun b hb' => .inr ?_) (by intro κ hκ; cases hκ)⟩
    simpa [Value.ownBlock] using hb'.symm
  ·exact hvc.elim
 ·exact hvc.elim
end
end Go.Vc
namespace Go.Vc
open Go Go.RowKit
section
variable {C : Cx} {n : Nat} {F : Fm} {ok0 : Nat → Prop} {w0 : World} {ok : Nat → Prop} {β : Nat → Value} {s : S} {a : Act} {w : World} {own : Nat → Bool} {o : Oper} {k : U → Prop} {K : Act → World → Prop} {Q : Exit → Act → World → Prop}
theorem mine_block (h : StO C n F ok0 w0 ok β s a w) {κ b : Nat} (hm : (s.η κ).mine = true) (hb : blockOf (β κ) = some b) : ¬ ok b ∧ may F w0 b ∧ ∀ κ', (s.η κ').live = true → blockOf (β κ') = some b → κ' = κ := by
 have hob := h.η κ
 have h1 : ¬ ok b ∧ may F w0 b := by
  cases e : s.η κ with
  | no => rw [e] at hm; simp [AO.mine] at hm
  | var own' t x =>
   rw [e] at hob hm
   obtain ⟨b', v, q1, q2, q3, q4, q5, _⟩ := hob
   rw [q1] at hb
   have : b' = b := by simpa [blockOf] using hb
   subst this
   exact ⟨q4, q5 (by simpa [AO.mine] using hm)⟩
  | ms t sk L B c r =>
   rw [e] at hob
   obtain ⟨es, q1, _, q3, q4, _⟩ := hob
   rw [q1] at hb
   have : r = b := by simpa [blockOf] using hb
   subst this
   exact ⟨q3, q4⟩
  | mi κ0 m since seen last =>
   rw [e] at hob
   obtain ⟨r, q1, _, q3, q4⟩ := hob
   rw [q1] at hb
   have : r = b := by simpa [blockOf] using hb
   subst this
   exact ⟨q3, q4⟩
  | it l pos =>
   rw [e] at hob
   obtain ⟨r, q1, _, q3, q4⟩ := hob
   rw [q1] at hb
   have : r = b := by simpa [blockOf] using hb
   subst this
   exact ⟨q3, q4⟩
  | mp t sk L =>
   rw [e] at hob
   obtain ⟨r, es, clock, q1, _, q3, q4, _⟩ := hob
   rw [q1] at hb
   have : r = b := by simpa [blockOf] using hb
   subst this
   exact ⟨q3, q4⟩
  | fm t ks xs =>
   rw [e] at hob
   obtain ⟨r, es, clock, q1, _, q3, q4, _⟩ := hob
   rw [q1] at hb
   have : r = b := by simpa [blockOf] using hb
   subst this
   exact ⟨q3, q4⟩
  | rp t xs =>
   rw [e] at hob
   obtain ⟨⟨vs, q1, _⟩, q2⟩ := hob
   have hown : (β κ).ownBlock = some b := by
    rcases q1.2 with ⟨q3, _⟩ | ⟨g, cap, cur, q3, _⟩
    ·rw [q3] at hb; simp [blockOf] at hb
    ·rw [q3] at hb ⊢; simpa [blockOf, Value.ownBlock] using hb
   exact q2 b hown
  | row t sz L =>
   rw [e] at hob
   obtain ⟨_, ⟨xs, q1, _⟩, q2⟩ := hob
   have hown : (β κ).ownBlock = some b := by
    rcases q1.2 with ⟨q3, _⟩ | ⟨g, cap, cur, q3, _⟩
    ·rw [q3] at hb; simp [blockOf] at hb
    ·rw [q3] at hb ⊢; simpa [blockOf, Value.ownBlock] using hb
   exact q2 b hown
 refine ⟨h1.1, h1.2, fun κ' hl hb' => ?_⟩
 cases e : (s.η κ').mine with
 | true => exact h.dis κ' κ b e hm hb' hb
 | false =>
  cases e2 : s.η κ' with
  | no => rw [e2] at hl; simp [AO.live] at hl
  | row t sz L => rw [e2] at e; simp [AO.mine] at e
  | mp t sk L => rw [e2] at e; simp [AO.mine] at e
  | it l pos => rw [e2] at e; simp [AO.mine] at e
  | ms t0 sk0 L0 B0 c0 m0 => rw [e2] at e; simp [AO.mine] at e
  | mi κ0 m0 s0 q0 l0 => rw [e2] at e; simp [AO.mine] at e
  | fm t ks xs => rw [e2] at e; simp [AO.mine] at e
  | rp t xs => rw [e2] at e; simp [AO.mine] at e
  | var own' t x =>
   rw [e2] at e
   simp only [AO.mine] at e
   subst e
   exact absurd h1.2 (h.ro κ' t x b e2 hb')
theorem StO.reobj (hC : CxOk C) (h : StO C n F ok0 w0 ok β s a w) {κ b : Nat} {o' : AO} {w' : World} (hm : (s.η κ).mine = true) (hm' : o'.mine = true) (hb : blockOf (β κ) = some b) (hsame : ∀ b', b' ≠ b → w'.heap[b']? = w.heap[b']?) (hsz : w'.heap.size = w.heap.size)
  (hos : w'.os = w.os ∧ w'.tape = w.tape ∧ w'.output = w.output) (hob : OB C ok β w' (may F w0) κ o') (hk : ∀ κ' ∈ o'.keys, (s.η κ').live = true) : StO C n F ok0 w0 ok β (s.set κ o') a w' := by
 obtain ⟨q1, q2, q3⟩ := mine_block h hm hb
 have hst : Stay ok w w' := fun b' hb' _ => hsame b' fun e => q1 (e ▸ hb')
 have hbel : Keep F w0 w' := h.below.step hos.1 hos.2.1 hos.2.2 (by omega) fun i hi hm2 => hsame i fun e => hm2 (e ▸ q2)
 have hl : ∀ κ', (s.η κ').live = true → ((s.set κ o').η κ').live = true := by
  intro κ' hκ'
  rw [S.set_η]
  split
  ·exact mine_live hm'
  ·exact hκ'
 exact
  {lt := fun b' hb' => by have := h.lt b' hb'; omega
   new := h.new
   old := h.old
   gx := GX_stay hC h.gx hst h.lt fun _ h => h
   defers := h.defers
   size := h.size
   ρ := fun t => R_stay (fun _ h => h) hst (h.ρ t)
   η := fun κ' => by
    rw [S.set_η]
    by_cases e : κ' = κ
    ·rw [if_pos e]; subst e; exact hob
    ·rw [if_neg e]
     exact OB_move (h.η κ') (fun _ => rfl) (fun _ _ => rfl) (fun _ h => h) hst (fun b' hl' hb' hlt => hsame b' fun e' => e (q3 κ' hl' (e' ▸ hb'))) (fun _ _ _ _ hn => hn)
   ro := fun κ' t x b' hη hb' => by
    rw [S.set_η] at hη
    by_cases e : κ' = κ
    ·rw [if_pos e] at hη; subst hη; simp [AO.mine] at hm'
    ·rw [if_neg e] at hη; exact h.ro κ' t x b' hη hb'
   dis := fun κ' κ'' b' h1 h2 h3 h4 => by
    have hmm : ∀ q, ((s.set κ o').η q).mine = true → (s.η q).mine = true := by
     intro q hq
     rw [S.set_η] at hq
     by_cases e : q = κ
     ·rw [e]; exact hm
     ·rwa [if_neg e] at hq
    exact h.dis κ' κ'' b' (hmm _ h1) (hmm _ h2) h3 h4
   wf := ⟨fun t κ' hκ' => hl κ' (h.wf.ρ t κ' hκ'), fun t κ' hκ' => by
    rw [S.set_η] at hκ'
    split at hκ'
    ·exact hl κ' (hk κ' hκ')
    ·exact hl κ' (h.wf.η t κ' hκ')⟩
   below := hbel
   n2 := h.n2
   pin := h.pin }
theorem RPL_app : ∀ {xs ys : List PV} {vs us : List Value}, RPL ok w xs vs → RPL ok w ys us → RPL ok w (xs ++ ys) (vs ++ us)
 | [], ys, [], us, _, h => h
 | [], _, _ :: _, _, h, _ => h.elim
 | _ :: _, _, [], _, h, _ => h.elim
 | x :: xs, ys, v :: vs, us, h, h' => ⟨h.1, RPL_app h.2 h'⟩
theorem setRow_same (w : World) (g : Nat) (cs : Array Value) {b : Nat} (h : b ≠ g) : (w.setRow g cs).heap[b]? = w.heap[b]? := by
 simp only [World.setRow, Array.getElem?_modify]
 rw [if_neg (by omega)]
theorem setRow_at {w : World} {g : Nat} {cur : Array Value} {t : TypeId} {fr : Nat × Nat} (h : w.heap[g]? = some (.cells cur t fr)) (cs : Array Value) : (w.setRow g cs).heap[g]? = some (.cells cs t fr) := by
 simp only [World.setRow, Array.getElem?_modify]
 simp [h]
theorem setRow_size (w : World) (g : Nat) (cs : Array Value) : (w.setRow g cs).heap.size = w.heap.size := by simp [World.setRow]
theorem run_storeVar {P : Program} {t : TypeId} {ti : TI} (hT : TyOk P t ti) {w : World} {g off : Nat} {e : TypeId} {cur : Array Value} {v : Value} (hg : w.heap[g]? = some (.cells cur e (0, 0))) (hs : v.cells.size = ti.sz) (hle : off + v.cells.size ≤ cur.size) (h1 : ∀ u ∈ v.cells.toList, one u) :
  (storeVar t ⟨g, off, none⟩ v).run P w = .ok () (w.setRow g (cur.toList.take off ++ (v.cells.toList ++ cur.toList.drop (off + v.cells.size))).toArray) := by
 have := run_storeCells_at (P := P) g off e v.cells.toList 0 cur w hg (by simpa using hle) (fun u hu => h1 u hu)
 unfold storeVar
 simp only [Sem.run_bind, hT.size, Result.andThen_ok, hs, ne_eq, not_true_eq_false, if_false]
 simpa [hs] using this
theorem RP_parts {ok : Nat → Prop} {w : World} {x : PV} {v : Value} {sh : Bool × Nat} (h : RP ok w x v) (hsh : x.shape = sh) : RPL ok w x.parts v.cells.toList ∧ x.parts.length = sh.2 := by
 have h1 := RP_one h
 subst hsh
 cases x with
 | agg cs =>
  rw [RP] at h
  obtain ⟨vs, rfl, h2, h3⟩ := h
  exact ⟨by simpa [PV.parts, Value.cells] using h3, rfl⟩
 | _ =>
  have hv := one_cells (h1.2.2.2 rfl)
  rw [hv]
  exact ⟨⟨h, trivial⟩, rfl⟩
theorem store_part (hC : CxOk C) {t : TypeId} {x y : Operand} (ho : o.op = .store t x y) (h : StO C n F ok0 w0 ok β s a w) (ed : o.dst = none) {ti : TI} (eT : C.T t = some ti) {κ sz i : Nat} (e : s.ev x = .rowE κ sz i) {t' : TypeId} {sz' : Nat} {L : List PV} (eη : s.η κ = .row t' sz' L)
  {z : PV} (ey : s.ev y = .p z) (hry : RP ok w z (a.eval y)) {g cap : Nat} {cur : Array Value} {xs : List Value} (hv : a.eval x = .pointer (some ⟨g, i * sz, none⟩)) (hβ2 : β κ = .slice (some ⟨g, 0, none⟩) L.length cap) (hheap : w.heap[g]? = some (.cells cur t' (0, 0)))
  (c1 : L.length ≤ cap) (c2 : cap ≤ maxLen) (c3 : cur.size = cap * sz') (c4 : cur.toList.take (L.length * sz') = xs) (hrr : RRow ok w sz' L xs) (hnok : ∀ k, (β κ).ownBlock = some k → ¬ ok k ∧ may F w0 k) (hpos : 0 < sz') (hg : 0 ≤ g)
  (hvc : sz = 1 ∧ ∃ j f cs, i = j * sz' + f ∧ L[j]? = some (.agg cs) ∧ cs.length = sz' ∧ z.shape = (ti.agg, ti.sz) ∧ f + ti.sz ≤ sz' ∧ k { x := .no, st := some (κ, .row t' sz' (L.set j (.agg (cs.take f ++ (z.parts ++ cs.drop (f + ti.sz)))))) })
  (hK : ∀ u a' w', k u → St C n F ok0 w0 (s.app o.dst u) a' w' → K a' w') : o.wp C.P a w K Q := by
 obtain ⟨rfl, j, f, cs, rfl, hj, hcl, hsh, hle, hvc⟩ := hvc
 have hT := hC.ty _ _ eT
 rw [Nat.mul_one] at hv
 have hjlt : j < L.length := (List.getElem?_eq_some_iff.1 hj).1
 obtain ⟨hzp, hzl⟩ := RP_parts hry hsh
 have g1 := (RP_one hry).1
 have g2 : (a.eval y).cells.size = ti.sz := by rw [(RP_one hry).2.1, hsh]
 have hmul : j * sz' + sz' ≤ L.length * sz' := by
  rw [← Nat.succ_mul]
  exact Nat.mul_le_mul_right _ hjlt
 have hmul2 : L.length * sz' ≤ cap * sz' := Nat.mul_le_mul_right _ c1
 obtain ⟨off, hoff⟩ : ∃ off, off = j * sz' + f := ⟨_, rfl⟩
 rw [← hoff] at hv
 have hrun := run_storeVar hT hheap (off := off) g2 (by omega) g1
 obtain ⟨vs, hvs⟩ : ∃ vs, vs = cur.toList.take off ++ ((a.eval y).cells.toList ++ cur.toList.drop (off + (a.eval y).cells.size)) := ⟨_, rfl⟩
 rw [← hvs] at hrun
 obtain ⟨w', hw'⟩ : ∃ w', w' = w.setRow g vs.toArray := ⟨_, rfl⟩
 rw [← hw'] at hrun
 refine wp_skip (w' := w') (by simp [execOp, ho, hv, Instr.storeAt, Instr.sureAddr, hrun]) (hK _ _ _ hvc ?_)
 rw [ed]
 have hbk : blockOf (β κ) = some g := by rw [hβ2]; rfl
 have hng : ¬ ok g := (hnok g (by rw [hβ2]; rfl)).1
 have hmine : (s.η κ).mine = true := by rw [eη]; rfl
 have hsame : ∀ b2, b2 ≠ g → w'.heap[b2]? = w.heap[b2]? := fun b2 hb2 => by rw [hw']; exact setRow_same _ _ _ hb2
 have hst : Stay ok w w' := fun b2 hb2 _ => hsame b2 fun e2 => hng (by rw [← e2]; exact hb2)
 have hcl' : cur.toList.length = cap * sz' := by simpa using c3
 have hyl : (a.eval y).cells.toList.length = ti.sz := by rw [Array.length_toList, g2]
 have hvl : vs.length = cap * sz' := by
  rw [hvs]
  simp only [List.length_append, List.length_take, List.length_drop, hcl', Array.length_toList, g2]
  omega
 have hget : ∀ q, vs[q]? = if q < off then cur.toList[q]? else if q < off + ti.sz then (a.eval y).cells.toList[q - off]? else cur.toList[q]? := by
  intro q
  rw [hvs]
  by_cases h1 : q < off
  ·rw [if_pos h1, List.getElem?_append_left (by rw [List.length_take]; omega), List.getElem?_take_of_lt h1]
  ·rw [if_neg h1, List.getElem?_append_right (by rw [List.length_take]; omega)]
   rw [List.length_take, hcl', show min off (cap * sz') = off by omega]
   by_cases h2 : q < off + ti.sz
   ·rw [if_pos h2, List.getElem?_append_left (by omega)]
   ·rw [if_neg h2, List.getElem?_append_right (by omega), List.getElem?_drop, hyl, g2]
    congr 1
    omega
 refine ⟨ok, β, h.reobj hC hmine rfl hbk hsame (by rw [hw']; exact setRow_size _ _ _) (by rw [hw']; exact ⟨rfl, rfl, rfl⟩) ⟨hpos, ⟨vs.take ((L.set j (.agg (cs.take f ++ (z.parts ++ cs.drop (f + ti.sz))))).length * sz'), ⟨by rw [List.length_take, List.length_set, hvl]; omega, ?_⟩, ?_⟩, hnok⟩ (by intro κ' hκ'; cases hκ')⟩
 ·refine .inr ⟨g, cap, vs.toArray, by rw [hβ2, List.length_set], hg, by rw [hw']; exact setRow_at hheap _, by rw [List.length_set]; exact c1, c2, by simpa using hvl, by simp⟩
 ·refine ⟨by rw [List.length_take, List.length_set, hvl]; omega, fun q x hx => ?_⟩
  have hql : q < L.length := by
   have := (List.getElem?_eq_some_iff.1 hx).1
   simpa using this
  have hmulq : q * sz' + sz' ≤ L.length * sz' := by
   rw [← Nat.succ_mul]
   exact Nat.mul_le_mul_right _ hql
  rw [List.getElem?_set] at hx
  by_cases hjq : j = q
  ·subst hjq
   rw [if_pos rfl, if_pos hjlt] at hx
   simp only [Option.some.injEq] at hx
   subst hx
   obtain ⟨c, hc, hce⟩ := hrr.2 j _ hj
   have hc := RP_stay (fun _ h => h) hst hc
   rw [RP] at hc
   obtain ⟨us, rfl, h5, h6⟩ := hc
   have hul := RPL_length h6
   have hce : us = (xs.drop (j * sz')).take sz' := by simpa [Value.cells] using hce
   refine ⟨.agg (us.take f ++ ((a.eval y).cells.toList ++ us.drop (f + ti.sz))).toArray, ?_, ?_⟩
   ·rw [RP]
    refine ⟨_, rfl, ?_, RPL_app (RPL_take _ h6) (RPL_app (RPL_stay (fun _ h => h) hst hzp) (RPL_drop _ h6))⟩
    intro u hu
    simp only [List.mem_append] at hu
    rcases hu with hu | hu | hu
    ·exact h5 u (List.mem_of_mem_take hu)
    ·exact g1 u hu
    ·exact h5 u (List.mem_of_mem_drop hu)
   ·rw [List.length_set]
    show us.take f ++ ((a.eval y).cells.toList ++ us.drop (f + ti.sz)) = _
    have hcur : ∀ q, q < sz' → us[q]? = cur.toList[j * sz' + q]? := by
     intro q hq
     rw [hce, List.getElem?_take_of_lt hq, List.getElem?_drop, ← c4, List.getElem?_take_of_lt (by omega)]
    apply List.ext_getElem?
    intro q
    by_cases hq : q < sz'
    ·rw [List.getElem?_take_of_lt hq, List.getElem?_drop, List.getElem?_take_of_lt (by omega), hget]
     by_cases h1 : q < f
     ·rw [if_pos (by omega), List.getElem?_append_left (by rw [List.length_take]; omega), List.getElem?_take_of_lt h1, hcur q hq]
     ·rw [if_neg (by omega), List.getElem?_append_right (by rw [List.length_take]; omega), List.length_take, show min f us.length = f by omega]
      by_cases h2 : q < f + ti.sz
      ·rw [if_pos (by omega), List.getElem?_append_left (by omega)]
       congr 1
       omega
      ·rw [if_neg (by omega), List.getElem?_append_right (by omega), List.getElem?_drop, hyl, ← hcur q hq]
       congr 1
       omega
    ·rw [List.getElem?_eq_none (by simp only [List.length_append, List.length_take, List.length_drop, hyl]; omega), List.getElem?_eq_none (by rw [List.length_take]; omega)]
  ·rw [if_neg hjq] at hx
   obtain ⟨c, hc, hce⟩ := hrr.2 q x hx
   refine ⟨c, RP_stay (fun _ h => h) hst hc, ?_⟩
   rw [hce, ← c4, List.length_set]
   have hmm : q * sz' + sz' ≤ j * sz' ∨ j * sz' + sz' ≤ q * sz' := by
    rcases Nat.lt_or_gt_of_ne hjq with hh | hh
    ·right
     rw [← Nat.succ_mul]
     exact Nat.mul_le_mul_right _ hh
    ·left
     rw [← Nat.succ_mul]
     exact Nat.mul_le_mul_right _ hh
   apply List.ext_getElem?
   intro p
   by_cases hp : p < sz'
   ·rw [List.getElem?_take_of_lt hp, List.getElem?_take_of_lt hp, List.getElem?_drop, List.getElem?_drop, List.getElem?_take_of_lt (by omega), List.getElem?_take_of_lt (by omega), hget]
    rcases hmm with hmm | hmm
    ·rw [if_pos (by omega)]
    ·rw [if_neg (by omega), if_neg (by omega)]
   ·rw [List.getElem?_eq_none (by rw [List.length_take]; omega), List.getElem?_eq_none (by rw [List.length_take]; omega)]
theorem op_store (hC : CxOk C) {t : TypeId} {x y : Operand} (ho : o.op = .store t x y) (h : StO C n F ok0 w0 ok β s a w) (hvc : VC C own o s.ev s.η k)
  (hK : ∀ u a' w', k u → St C n F ok0 w0 (s.app o.dst u) a' w' → K a' w') : o.wp C.P a w K Q := by
 simp only [VC, ho] at hvc
 split at hvc
 ·rename_i ti ed eT
  have hT := hC.ty _ _ eT
  have hrx := ev_R h x
  have hry := ev_R h y
  have hky := ev_keys h y
  split at hvc
  ·rename_i κ off e
   split at hvc
   ·rename_i t' z eη
    obtain ⟨hsh, hvc⟩ := hvc
    have hob := h.η κ
    rw [eη] at hob
    obtain ⟨b, v, hb, hheap, hz, hnok, hbase, hone, hty⟩ := hob
    rw [e, R] at hrx
    obtain ⟨b', hb', hv⟩ := hrx
    have : b' = b := by rw [hb] at hb'; simpa using hb'.symm
    subst this
    obtain ⟨g1, g2, g3, g4⟩ := R_shape hry hsh
    have hbk : blockOf (β κ) = some b' := by rw [hb]; rfl
    have hmine : (s.η κ).mine = true := by rw [eη]; rfl
    cases hc : (Nat.beq t t' && Nat.beq off 0) with
    | true =>
     rw [hc] at hvc
     simp only [Bool.and_eq_true, Nat.beq_eq] at hc
     obtain ⟨rfl, rfl⟩ := hc
     obtain ⟨q1, q2, q3⟩ := hty ti eT
     have hlen : (a.eval y).cells.size = v.cells.size := by rw [g2, q1]
     have hrun := run_storeVar hT hheap (off := 0) g2 (by omega) g1
     have hw' : (v.cells.toList.take 0 ++ ((a.eval y).cells.toList ++ v.cells.toList.drop (0 + (a.eval y).cells.size))).toArray = (a.eval y).cells := by
      rw [Nat.zero_add, hlen, List.drop_eq_nil_of_le (by simp)]
      simp
     rw [hw'] at hrun
     refine wp_skip (w' := w.setRow b' (a.eval y).cells) (by simp [execOp, ho, hv, Instr.storeAt, Instr.sureAddr, hrun]) (hK _ _ _ hvc ?_)
     rw [ed]
     refine ⟨ok, β, h.reobj hC hmine rfl hbk (fun b2 hb2 => setRow_same _ _ _ hb2) (setRow_size _ _ _) ⟨rfl, rfl, rfl⟩ ⟨b', a.eval y, hb, setRow_at hheap _, R_stay (fun _ h => h) (fun b2 hb2 _ => setRow_same _ _ _ fun e2 => hnok (by rw [← e2]; exact hb2)) hry, hnok, hbase, g1, fun ti' e' => ?_⟩ hky⟩
     rw [eT] at e'
     cases e'
     exact ⟨g2, g3, g4⟩
    | false =>
     rw [hc] at hvc
     simp only [cond_false] at hvc
     split at hvc
     ·rename_i cs xs ecs exs
      obtain ⟨hle, ⟨ti', eT', hagg⟩, hvc⟩ := hvc
      rw [stC_eq ecs exs hle] at hvc
      have hcs := cells_R hz ecs
      have hxs := cells_R hry exs
      have hl1 := RL_length hcs
      have hl2 := RL_length hxs
      have hl1' : v.cells.size = cs.length := by simpa using hl1
      have hl2' : (a.eval y).cells.size = xs.length := by simpa using hl2
      have hrun := run_storeVar hT hheap (off := off) g2 (by omega) g1
      obtain ⟨vs, hvs⟩ : ∃ vs, vs = v.cells.toList.take off ++ ((a.eval y).cells.toList ++ v.cells.toList.drop (off + (a.eval y).cells.size)) := ⟨_, rfl⟩
      rw [← hvs] at hrun
      obtain ⟨w', hw'⟩ : ∃ w', w' = w.setRow b' vs.toArray := ⟨_, rfl⟩
      rw [← hw'] at hrun
      refine wp_skip (w' := w') (by simp [execOp, ho, hv, Instr.storeAt, Instr.sureAddr, hrun]) (hK _ _ _ hvc ?_)
      rw [ed]
      have hsame : ∀ b2, b2 ≠ b' → w'.heap[b2]? = w.heap[b2]? := fun b2 hb2 => by rw [hw']; exact setRow_same _ _ _ hb2
      have hst : Stay ok w w' := fun b2 hb2 _ => hsame b2 fun e2 => hnok (by rw [← e2]; exact hb2)
      have hnew : RL ok β w' (cs.take off ++ (xs ++ cs.drop (off + xs.length))) vs := by
       rw [hvs]
       refine RL_append (RL_take _ (RL_stay (fun _ h => h) hst hcs)) (RL_append (RL_stay (fun _ h => h) hst hxs) ?_)
       rw [hl2']
       exact RL_drop _ (RL_stay (fun _ h => h) hst hcs)
      have hone' : ∀ u ∈ vs, one u := by
       intro u hu
       rw [hvs] at hu
       simp only [List.mem_append] at hu
       rcases hu with hu | hu | hu
       ·exact hone u (List.mem_of_mem_take hu)
       ·exact g1 u hu
       ·exact hone u (List.mem_of_mem_drop hu)
      have hszn : vs.length = v.cells.size := by
       rw [hvs]
       simp; omega
      have hat : w'.heap[b']? = some (.cells (Value.agg vs.toArray).cells t' (0, 0)) := by rw [hw']; exact setRow_at hheap _
      refine ⟨ok, β, h.reobj hC hmine rfl hbk hsame (by rw [hw']; exact setRow_size _ _ _) (by rw [hw']; exact ⟨rfl, rfl, rfl⟩) ⟨b', .agg vs.toArray, hb, hat, ofCells_R hnew hone', hnok, hbase, by simpa [Value.cells] using hone', fun ti2 e' => ?_⟩ ?_⟩
      ·obtain ⟨q1, q2, q3⟩ := hty ti2 e'
       rw [eT'] at e'
       cases e'
       refine ⟨by rw [← q1, ← hszn]; simp [Value.cells], fun _ => rfl, fun ha => ?_⟩
       rw [hagg] at ha
       cases ha
      ·intro κ' hκ'
       have hκ' := ofCells_keys hκ'
       simp only [keysL_append, List.mem_append] at hκ'
       have hzk : ∀ κ' ∈ SV.keysL cs, (s.η κ').live = true := fun κ' hκ' => h.wf.η κ κ' (by rw [eη]; exact cells_keys ecs hκ')
       rcases hκ' with hκ' | hκ' | hκ'
       ·exact hzk κ' (keysL_sub (fun q hq => List.mem_of_mem_take hq) hκ')
       ·exact hky κ' (cells_keys exs hκ')
       ·exact hzk κ' (keysL_sub (fun q hq => List.mem_of_mem_drop hq) hκ')
     ·exact hvc.elim
   ·exact hvc.elim
  ·rename_i κ sz i e
   split at hvc
   ·rename_i t' sz' L z eη ey
    have hob := h.η κ
    rw [eη] at hob
    obtain ⟨hpos, ⟨xs, hrow, hrr⟩, hnok⟩ := hob
    rw [e, R] at hrx
    obtain ⟨g, m, cap0, hβ, hv⟩ := hrx
    obtain ⟨cap, cur, hβ2, hg, hheap, c1, c2, c3, c4⟩ : ∃ cap cur, β κ = .slice (some ⟨g, 0, none⟩) L.length cap ∧ 0 ≤ g ∧ w.heap[g]? = some (.cells cur t' (0, 0)) ∧ L.length ≤ cap ∧ cap ≤ maxLen ∧ cur.size = cap * sz' ∧ cur.toList.take (L.length * sz') = xs := by
     rcases hrow.2 with ⟨q, _⟩ | ⟨g', cap, cur, q, q2, q3, q4, q5, q6, q7⟩
     ·rw [q] at hβ; simp at hβ
     ·rw [q] at hβ
      simp only [Value.slice.injEq, Option.some.injEq, Addr.mk.injEq] at hβ
      obtain ⟨⟨rfl, _⟩, _⟩ := hβ
      exact ⟨cap, cur, q, q2, q3, q4, q5, q6, q7⟩
    rw [add_plain, Nat.zero_add] at hv
    rw [ey] at hry
    have hry' := hry
    rw [R] at hry'
    rw [beq_ite] at hvc
    split at hvc
    case isFalse => exact store_part hC ho h ed eT e eη ey hry' hv hβ2 hheap c1 c2 c3 c4 hrr hnok hpos hg hvc hK
    rename_i hss
    subst hss
    obtain ⟨hlt, _, hszt, hsh, hvc⟩ := hvc
    have hsh' : (s.ev y).shape = some (ti.agg, ti.sz) := by rw [ey]; simp [SV.shape, hsh]
    obtain ⟨g1, g2, g3, g4⟩ := R_shape (h := ev_R h y) hsh'
    have hcs : (a.eval y).cells.size = sz := by rw [g2, hszt]
    have hmul : i * sz + sz ≤ L.length * sz := by
     rw [← Nat.succ_mul]
     exact Nat.mul_le_mul_right _ hlt
    have hmul2 : L.length * sz ≤ cap * sz := Nat.mul_le_mul_right _ c1
    have hrun := run_storeVar hT hheap (off := i * sz) g2 (by omega) g1
    obtain ⟨vs, hvs⟩ : ∃ vs, vs = cur.toList.take (i * sz) ++ ((a.eval y).cells.toList ++ cur.toList.drop (i * sz + (a.eval y).cells.size)) := ⟨_, rfl⟩
    rw [← hvs] at hrun
    obtain ⟨w', hw'⟩ : ∃ w', w' = w.setRow g vs.toArray := ⟨_, rfl⟩
    rw [← hw'] at hrun
    refine wp_skip (w' := w') (by simp [execOp, ho, hv, Instr.storeAt, Instr.sureAddr, hrun]) (hK _ _ _ hvc ?_)
    rw [ed]
    have hbk : blockOf (β κ) = some g := by rw [hβ2]; rfl
    have hng : ¬ ok g := (hnok g (by rw [hβ2]; rfl)).1
    have hmine : (s.η κ).mine = true := by rw [eη]; rfl
    have hsame : ∀ b2, b2 ≠ g → w'.heap[b2]? = w.heap[b2]? := fun b2 hb2 => by rw [hw']; exact setRow_same _ _ _ hb2
    have hst : Stay ok w w' := fun b2 hb2 _ => hsame b2 fun e2 => hng (by rw [← e2]; exact hb2)
    have hvl : vs.length = cap * sz := by
     rw [hvs]
     have : cur.toList.length = cap * sz := by simpa using c3
     simp only [List.length_append, List.length_take, List.length_drop, this, Array.length_toList, hcs]
     omega
    refine ⟨ok, β, h.reobj hC hmine rfl hbk hsame (by rw [hw']; exact setRow_size _ _ _) (by rw [hw']; exact ⟨rfl, rfl, rfl⟩) ⟨hpos, ⟨vs.take ((L.set i z).length * sz), ⟨by rw [List.length_take, List.length_set, hvl]; omega, ?_⟩, ?_⟩, hnok⟩ (by intro κ' hκ'; cases hκ')⟩
    ·refine .inr ⟨g, cap, vs.toArray, by rw [hβ2, List.length_set], hg, by rw [hw']; exact setRow_at hheap _, by rw [List.length_set]; exact c1, c2, by simpa using hvl, by simp⟩
    ·refine ⟨by rw [List.length_take, List.length_set, hvl]; omega, fun j x hx => ?_⟩
     have hjl : j < L.length := by
      have := (List.getElem?_eq_some_iff.1 hx).1
      simpa using this
     have hmulj : j * sz + sz ≤ L.length * sz := by
      rw [← Nat.succ_mul]
      exact Nat.mul_le_mul_right _ hjl
     rw [List.getElem?_set] at hx
     have hcl : cur.toList.length = cap * sz := by simpa using c3
     by_cases hji : i = j
     ·subst hji
      rw [if_pos rfl, if_pos hlt] at hx
      simp only [Option.some.injEq] at hx
      subst hx
      refine ⟨a.eval y, RP_stay (fun _ h => h) hst hry', ?_⟩
      rw [List.length_set, List.drop_take, List.take_take, hvs]
      rw [List.drop_append, List.drop_eq_nil_of_le (by rw [List.length_take]; omega), List.nil_append]
      rw [List.length_take, hcl, show i * sz - min (i * sz) (cap * sz) = 0 by omega, List.drop_zero, show min sz (L.length * sz - i * sz) = sz by omega]
      have hyl : (a.eval y).cells.toList.length = sz := by rw [Array.length_toList, hcs]
      rw [List.take_append_of_le_length (by omega)]
      rw [List.take_of_length_le (by omega)]
     ·rw [if_neg hji] at hx
      obtain ⟨c, hc, hce⟩ := hrr.2 j x hx
      refine ⟨c, RP_stay (fun _ h => h) hst hc, ?_⟩
      rw [hce, ← c4, List.length_set]
      have hmm : j * sz + sz ≤ i * sz ∨ i * sz + sz ≤ j * sz := by
       rcases Nat.lt_or_gt_of_ne hji with hh | hh
       ·right
        rw [← Nat.succ_mul]
        exact Nat.mul_le_mul_right _ hh
       ·left
        rw [← Nat.succ_mul]
        exact Nat.mul_le_mul_right _ hh
      have hyl : (a.eval y).cells.toList.length = sz := by rw [Array.length_toList, hcs]
      apply List.ext_getElem?
      intro q
      by_cases hq : q < sz
      ·rw [List.getElem?_take_of_lt hq, List.getElem?_take_of_lt hq, List.getElem?_drop, List.getElem?_drop, List.getElem?_take_of_lt (by omega), List.getElem?_take_of_lt (by omega), hvs]
       rcases hmm with hmm | hmm
       ·rw [List.getElem?_append_left (by rw [List.length_take]; omega), List.getElem?_take_of_lt (by omega)]
       ·rw [List.getElem?_append_right (by rw [List.length_take]; omega), List.getElem?_append_right (by rw [List.length_take]; omega), List.getElem?_drop]
        congr 1
        rw [List.length_take]
        omega
      ·rw [List.getElem?_eq_none (by rw [List.length_take]; omega), List.getElem?_eq_none (by rw [List.length_take]; omega)]
   ·exact hvc.elim
  ·exact hvc.elim
 ·exact hvc.elim
end
end Go.Vc
namespace Go.Vc
open Go Go.RowKit
section
variable {C : Cx} {n : Nat} {F : Fm} {ok0 : Nat → Prop} {w0 : World} {ok : Nat → Prop} {β : Nat → Value} {s : S} {a : Act} {w : World} {own : Nat → Bool} {o : Oper} {k : U → Prop} {K : Act → World → Prop} {Q : Exit → Act → World → Prop}
theorem RPE_vals {sz : Nat} {A : Option Addr} : ∀ {L : List PV} {i : Nat}, RPE ok w sz L A i → ∃ vs, RPL ok w L vs ∧ (∀ v ∈ vs, v.cells.size = sz) ∧ ∀ ad, A = some ad → ∀ j u, (flat vs)[j]? = some u → w.cell? (ad.add (i * sz + j)) = some u
 | [], i, _ => ⟨[], trivial, (fun v hv => by cases hv), fun ad _ j u hj => by simp [flat] at hj⟩
 | x :: L, i, h => by
  obtain ⟨⟨ad, c, h1, h2, h3, h4, h5⟩, h6⟩ := h
  obtain ⟨vs, q1, q2, q3⟩ := RPE_vals h6
  refine ⟨c :: vs, ⟨h3, q1⟩, fun v hv => ?_, fun ad' he j u hj => ?_⟩
  ·cases hv with
   | head => exact h4
   | tail _ hv => exact q2 v hv
  ·rw [h1] at he
   cases he
   simp only [flat, List.flatMap_cons] at hj
   by_cases hlt : j < sz
   ·rw [List.getElem?_append_left (by simp [h4]; exact hlt)] at hj
    exact h5 j u (by simpa using hj)
   ·rw [List.getElem?_append_right (by simp [h4]; omega)] at hj
    have := q3 ad h1 (j - sz) u (by simpa [flat, h4] using hj)
    rwa [show (i + 1) * sz + (j - sz) = i * sz + j by rw [Nat.add_mul]; omega] at this
theorem flat_one {L : List PV} {vs : List Value} (h : RPL ok w L vs) : ∀ u ∈ flat vs, u.oneCell' = true := by
 intro u hu
 simp only [flat, List.mem_flatMap] at hu
 obtain ⟨v, hv, hu⟩ := hu
 obtain ⟨i, hi⟩ := List.getElem?_of_mem hv
 have hlt : i < L.length := by
  rw [← RPL_length h]
  exact (List.getElem?_eq_some_iff.1 hi).1
 obtain ⟨v', hv', hr⟩ := RPL_get h (List.getElem?_eq_getElem hlt)
 rw [hi] at hv'
 cases hv'
 exact (RP_one hr).1 u hu
theorem RRow_append {sz : Nat} {L M : List PV} {xs ys : List Value} (h : RRow ok w sz L xs) (h' : RRow ok w sz M ys) : RRow ok w sz (L ++ M) (xs ++ ys) := by
 refine ⟨by rw [List.length_append, List.length_append, h.1, h'.1, Nat.add_mul], fun i x hx => ?_⟩
 by_cases hi : i < L.length
 ·rw [List.getElem?_append_left hi] at hx
  obtain ⟨c, h1, h2⟩ := h.2 i x hx
  refine ⟨c, h1, ?_⟩
  have hm : i * sz + sz ≤ xs.length := by
   rw [h.1, ← Nat.succ_mul]
   exact Nat.mul_le_mul_right _ hi
  rw [h2, List.drop_append_of_le_length (by omega), List.take_append_of_le_length (by rw [List.length_drop]; omega)]
 ·rw [List.getElem?_append_right (by omega)] at hx
  obtain ⟨c, h1, h2⟩ := h'.2 _ x hx
  refine ⟨c, h1, ?_⟩
  have hm : xs.length ≤ i * sz := by
   rw [h.1]
   exact Nat.mul_le_mul_right _ (by omega)
  rw [h2, List.drop_append, List.drop_eq_nil_of_le hm, List.nil_append]
  congr 2
  rw [h.1, Nat.sub_mul]
theorem run_append_none {P : Program} {t ty e : TypeId} {i : TypeInfo} {base size m : Nat} {v : Value} {xs : List Value} (ht : P.underlying t = some (.slice e)) (hi : P.info? e = some i) (hown : w.ownsRow base e size v m xs) (cap : Nat) :
  (Builtin.append_ #[t, t] ty #[v, .slice none 0 cap]).run P w = .ok v w := by
 rcases hown.2 with ⟨rfl, rfl⟩ | ⟨g, cap, cur, rfl, _, _, hnc, _⟩
 ·simp [Builtin.append_, run_underlying ht, sizeOf, typeInfo, hi, Builtin.lenOf, Builtin.firstCells]
 ·simp [Builtin.append_, run_underlying ht, sizeOf, typeInfo, hi, Builtin.lenOf, Builtin.firstCells, hnc, storeCells]
theorem run_append (hC : CxOk C) {t : TypeId} {ti te : TI} (eT : C.T t = some ti) (eE : C.T ti.elem = some te) (hk : ti.k = 2) (hpos : 0 < te.sz) {base : Nat} {v : Value} {L M : List PV} {xs : List Value} {ty : TypeId} {y : Operand} {M' : SV}
  (hM : lstOf M' = some M) (hy : R ok β w M' (a.eval y)) (hall : allSz (te.agg, te.sz) M) (hrow : w.ownsRow base ti.elem te.sz v L.length xs) (hrr : RRow ok w te.sz L xs) (hb : (L.length + M.length) * te.bytes ≤ 140737488355328) (hby : 0 < te.bytes) (hbase : base ≤ w.heap.size) (hno : ∀ b, v.ownBlock = some b → ¬ ok b) :
  ∃ v' w' ys, (Builtin.append_ #[t, t] ty #[v, a.eval y]).run C.P w = .ok v' w' ∧ w'.ownsRow base ti.elem te.sz v' (L ++ M).length ys ∧ RRow ok w' te.sz (L ++ M) ys ∧ w.grownBy w' v.ownBlock ∧ (v'.ownBlock = v.ownBlock ∨ v'.ownBlock = some w.heap.size) := by
 obtain ⟨i, d, z, h1, h2, h3, h4, h5, h6, h7, h8, _⟩ := (hC.ty _ _ eE).out
 have ht := (hC.ty _ _ eT).slice hk
 have hz : z.cells.size = te.sz := h7
 have hview : ∃ A cap, a.eval y = .slice A M.length cap ∧ ∃ sz, RPE ok w sz M A 0 := by
  cases M' with
  | p x =>
   cases x with
   | lst L' =>
    simp only [lstOf, Option.some.injEq] at hM
    subst hM
    rw [R, RP] at hy
    obtain ⟨A, cap, sz, q1, _, _, q4⟩ := hy
    exact ⟨A, cap, q1, sz, q4⟩
   | nilS =>
    simp only [lstOf, Option.some.injEq] at hM
    subst hM
    rw [R, RP] at hy
    exact ⟨none, 0, hy, 0, trivial⟩
   | _ => simp [lstOf] at hM
  | _ => simp [lstOf] at hM
 obtain ⟨A, cap, e1, sz, hE⟩ := hview
 rw [e1]
 cases A with
 | none =>
  have hnil : M = [] := by
   cases M with
   | nil => rfl
   | cons m M =>
    obtain ⟨⟨ad, c, q, _⟩, _⟩ := hE
    cases q
  subst hnil
  refine ⟨v, w, xs, run_append_none ht h1 hrow cap, by simpa using hrow, by simpa using hrr, ⟨rfl, rfl, rfl, Nat.le_refl _, fun _ _ _ => rfl⟩, .inl rfl⟩
 | some ad =>
  obtain ⟨vs, q1, q2, q3⟩ := RPE_vals hE
  have hsizes := allSz_sizes hall q1
  have hlen := RPL_length q1
  have hfl := flat_length hsizes
  have hszeq : M.length = 0 ∨ sz = te.sz := by
   cases vs with
   | nil => left; simpa using hlen.symm
   | cons v0 vs => right; rw [← q2 v0 (List.mem_cons_self ..), hsizes v0 (List.mem_cons_self ..)]
  have hcell : ∀ j u, (flat vs)[j]? = some u → w.cell? (ad.add j) = some u := by
   intro j u hj
   have := q3 ad rfl j u hj
   simpa using this
  have hm : L.length + M.length ≤ maxLen := by
   simp only [maxLen]
   have : (L.length + M.length) * 1 ≤ (L.length + M.length) * te.bytes := Nat.mul_le_mul_left _ hby
   omega
  obtain ⟨v', w', g1, g2, g3, g4, g5⟩ := run_append_own_at (P := C.P) w base t ty ti.elem i z te.sz te.bytes ht h1 h5 h3 h4 hz hpos v L.length xs hrow ad M.length cap (flat vs) (by rw [hfl, hlen]) hcell (flat_one q1) hm hb hbase
  refine ⟨v', w', xs ++ flat vs, g1, by simpa using g2, ?_, g3, g5⟩
  have hst : Stay ok w w' := fun b hb' hlt => g3.block b hlt fun e => hno b e.symm hb'
  exact RRow_append (RRow_stay (fun _ h => h) hst hrr) (RRow_stay (fun _ h => h) hst (RRow_flat q1 hsizes))
theorem RRow_one {sz : Nat} {L : List PV} {xs : List Value} (h : RRow ok w sz L xs) : ∀ u ∈ xs, one u := by
 intro u hu
 obtain ⟨p, hp, rfl⟩ := List.mem_iff_getElem.1 hu
 have hlen := h.1
 have hpos : 0 < sz := by
  rcases Nat.eq_zero_or_pos sz with e | e
  ·subst e; rw [Nat.mul_zero] at hlen; omega
  ·exact e
 have hdiv : p / sz < L.length := by rw [Nat.div_lt_iff_lt_mul hpos]; omega
 obtain ⟨c, h1, h2⟩ := h.2 (p / sz) L[p / sz] (List.getElem?_eq_getElem hdiv)
 refine (RP_one h1).1 _ ?_
 rw [h2]
 refine List.mem_of_getElem? (i := p % sz) ?_
 rw [List.getElem?_take_of_lt (Nat.mod_lt _ hpos), List.getElem?_drop, Nat.mul_comm, Nat.div_add_mod, List.getElem?_eq_getElem hp]
theorem run_append_rr (hC : CxOk C) {t : TypeId} {ti te : TI} (eT : C.T t = some ti) (eE : C.T ti.elem = some te) (hk : ti.k = 2) (hpos : 0 < te.sz) {base : Nat} {v yv : Value} {L M : List PV} {xs ys : List Value} {ty e' : TypeId}
  (hy : w.ownsRow 0 e' te.sz yv M.length ys) (hyr : RRow ok w te.sz M ys) (hrow : w.ownsRow base ti.elem te.sz v L.length xs) (hrr : RRow ok w te.sz L xs) (hb : (L.length + M.length) * te.bytes ≤ 140737488355328) (hby : 0 < te.bytes) (hbase : base ≤ w.heap.size) (hno : ∀ b, v.ownBlock = some b → ¬ ok b) :
  ∃ v' w' zs, (Builtin.append_ #[t, t] ty #[v, yv]).run C.P w = .ok v' w' ∧ w'.ownsRow base ti.elem te.sz v' (L ++ M).length zs ∧ RRow ok w' te.sz (L ++ M) zs ∧ w.grownBy w' v.ownBlock ∧ (v'.ownBlock = v.ownBlock ∨ v'.ownBlock = some w.heap.size) := by
 obtain ⟨i, d, z, h1, h2, h3, h4, h5, h6, h7, h8, _⟩ := (hC.ty _ _ eE).out
 have ht := (hC.ty _ _ eT).slice hk
 have hz : z.cells.size = te.sz := h7
 rcases hy.2 with ⟨rfl, hm0⟩ | ⟨g, cap, cur, rfl, _, hg, _⟩
 ·have hnil : M = [] := List.eq_nil_of_length_eq_zero hm0
  subst hnil
  exact ⟨v, w, xs, run_append_none ht h1 hrow 0, by simpa using hrow, by simpa using hrr, ⟨rfl, rfl, rfl, Nat.le_refl _, fun _ _ _ => rfl⟩, .inl rfl⟩
 ·have hm : L.length + M.length ≤ maxLen := by
   simp only [maxLen]
   have : (L.length + M.length) * 1 ≤ (L.length + M.length) * te.bytes := Nat.mul_le_mul_left _ hby
   omega
  have hcell := hy.cells (g := g) rfl
  obtain ⟨v', w', g1, g2, g3, g4, g5⟩ := run_append_own_at (P := C.P) w base t ty ti.elem i z te.sz te.bytes ht h1 h5 h3 h4 hz hpos v L.length xs hrow ⟨g, 0, none⟩ M.length cap ys hy.1 hcell (RRow_one hyr) hm hb hbase
  refine ⟨v', w', xs ++ ys, g1, by simpa using g2, ?_, g3, g5⟩
  have hst : Stay ok w w' := fun b hb' hlt => g3.block b hlt fun e => hno b e.symm hb'
  exact RRow_append (RRow_stay (fun _ h => h) hst hrr) (RRow_stay (fun _ h => h) hst hyr)
theorem append_rr (hC : CxOk C) {x y : Operand} {t : TypeId} (ho : o.op = .call ⟨.builtin .append, #[x, y], #[t, t]⟩) (h : StO C n F ok0 w0 ok β s a w) (hd : ∀ d, o.dst = some d → d < n) {d : Nat} (ed : o.dst = some d) {ti : TI} (eT : C.T t = some ti)
  (hvc : rrVC C d ti (s.ev x) (s.ev y) s.η k) (hK : ∀ u a' w', k u → St C n F ok0 w0 (s.app o.dst u) a' w' → K a' w') : o.wp C.P a w K Q := by
 unfold rrVC at hvc
 split at hvc
 ·rename_i te q eE ey
  split at hvc
  ·rename_i e' sz' M eηq
   obtain ⟨hk, hpos, hby, rfl, hvc⟩ := hvc
   have hrx := ev_R h x
   have hry := ev_R h y
   rw [ey, R] at hry
   obtain ⟨hry, _⟩ := hry
   have hobq := h.η q
   rw [eηq] at hobq
   obtain ⟨_, ⟨ys, hyrow, hyrr⟩, _⟩ := hobq
   have fin : ∀ (s1 : S) (L : List PV) (xs : List Value) (v : Value) (u : U) (q : Nat), StO C n F ok0 w0 ok β s1 a w → a.eval x = v → w.ownsRow 0 ti.elem te.sz v L.length xs → RRow ok w te.sz L xs → (L.length + M.length) * te.bytes ≤ 140737488355328 →
     (∀ b, v.ownBlock = some b → ¬ ok b ∧ may F w0 b ∧ ∀ κ, (s1.η κ).live = true → blockOf (β κ) ≠ some b) → s1.η q = .no → q < 2000 → k u →
     s.app (some d) u = (s1.set q (.row ti.elem te.sz (L ++ M))).put d (.slc q) → o.wp C.P a w K Q := by
    intro s1 L xs v u q h1 e1 hrow hrr hbytes hbl hno hq2 hu happ
    obtain ⟨v', w', zs, g1, g2, g3, g4, g5⟩ := run_append_rr hC eT eE hk hpos (ty := o.type) hyrow hyrr hrow hrr hbytes hby (Nat.zero_le _) (fun b hb => (hbl b hb).1)
    have hrun : (execOp a.eval o).run C.P w = .ok (.value v') w' := by simp [execOp, ho, resolve, invoke, builtin, e1, hry, g1]
    have hbel : Keep F w0 w' := h.below.grown g4 fun b hb => (hbl b hb).2.1
    have hkeep : ∀ b, b < w.heap.size → (ok b ∨ ∃ κ, (s1.η κ).live = true ∧ blockOf (β κ) = some b) → w'.heap[b]? = w.heap[b]? := by
     intro b hlt hb
     refine g4.block b hlt fun e => ?_
     rcases hb with hb | ⟨κ, hl, hb⟩
     ·exact (hbl b e.symm).1 hb
     ·exact (hbl b e.symm).2.2 κ hl hb
    have hnew : ∀ b, v'.ownBlock = some b → ¬ ok b ∧ (∀ κ, (s1.η κ).live = true → blockOf (β κ) ≠ some b) ∧ b < w'.heap.size ∧ may F w0 b := by
     intro b hb
     rcases g5 with g5 | g5
     ·have := hbl b (g5 ▸ hb)
      exact ⟨this.1, this.2.2, (g2.lt b hb).2, this.2.1⟩
     ·have : b = w.heap.size := by rw [g5] at hb; simpa using hb.symm
      subst this
      exact ⟨fun hc => by have := h.lt _ hc; omega, fun κ hl hbk => by have := OB_lt (h1.η κ) hl hbk; omega, (g2.lt _ hb).2, .inr h.below.size⟩
    refine wp_value hrun (hK u _ _ hu ?_)
    rw [ed, happ]
    have h2 := h1.world hC (ok' := ok) hbel g4.size hkeep (fun _ h => h) (fun _ h => .inl h)
    exact ⟨ok, _, h2.addrow (hd d ed) hq2 hno hpos g2 g3 fun b hb => ⟨(hnew b hb).1, (hnew b hb).2.2.2, (hnew b hb).2.1⟩⟩
   split at hvc
   ·rename_i ex
    split at hvc
    ·rename_i eη
     obtain ⟨hbytes, hvc⟩ := hvc
     rw [ex, R, RP] at hrx
     exact fin s [] [] _ _ d h hrx ⟨by simp, .inl ⟨rfl, rfl⟩⟩ ⟨by simp, fun i x hx => by simp at hx⟩ (by simpa using hbytes) (fun b hb => by simp [Value.ownBlock] at hb) eη (Nat.lt_of_lt_of_le (hd d ed) h.n2) hvc (by simp [S.app])
    ·exact hvc.elim
   ·rename_i κ ex
    split at hvc
    ·rename_i e sz L eη
     obtain ⟨hκ2, rfl, rfl, hbytes, hvc⟩ := hvc
     have hκ2 : κ < 2000 := by simpa [Nat.blt_eq] using hκ2
     rw [ex, R] at hrx
     obtain ⟨hrx, _⟩ := hrx
     have hob := h.η κ
     rw [eη] at hob
     obtain ⟨_, ⟨xs, hrow, hrr⟩, hnok⟩ := hob
     have hmine : (s.η κ).mine = true := by rw [eη]; rfl
     have hno : (s.kill κ).η κ = .no := by
      show cond (Nat.beq κ κ) .no ((s.η κ).purge κ) = .no
      rw [beq_ite, if_pos rfl]
     have hbl : ∀ b, (β κ).ownBlock = some b → ¬ ok b ∧ may F w0 b ∧ ∀ κ', ((s.kill κ).η κ').live = true → blockOf (β κ') ≠ some b := by
      intro b hb
      refine ⟨(hnok b hb).1, (hnok b hb).2, fun κ' hl hb' => ?_⟩
      obtain ⟨hl, hne⟩ := kill_live.1 hl
      exact hne ((mine_block h hmine (ownBlock_blockOf hb)).2.2 κ' hl hb')
     exact fin (s.kill κ) L xs _ _ κ (h.kill κ) hrx hrow hrr hbytes hbl hno hκ2 hvc (by simp [S.app])
    ·exact hvc.elim
   ·exact hvc.elim
  ·exact hvc.elim
 ·exact hvc.elim
theorem RL_app : ∀ {xs ys : List SV} {vs us : List Value}, RL ok β w xs vs → RL ok β w ys us → RL ok β w (xs ++ ys) (vs ++ us)
 | [], ys, [], us, _, h => h
 | [], _, _ :: _, _, h, _ => h.elim
 | _ :: _, _, [], _, h, _ => h.elim
 | x :: xs, ys, v :: vs, us, h, h' => ⟨h.1, RL_app h.2 h'⟩
theorem append_rp (hC : CxOk C) {x y : Operand} {t : TypeId} (ho : o.op = .call ⟨.builtin .append, #[x, y], #[t, t]⟩) (h : StO C n F ok0 w0 ok β s a w) (hd : ∀ d, o.dst = some d → d < n) {d : Nat} (ed : o.dst = some d) {ti : TI} (eT : C.T t = some ti)
  (hvc : match C.T ti.elem, rpOf s.η ti.elem (s.ev x), s.ev y, s.η d with
   | some te, some (kl, xs), .slc q, .no => match s.η q with
    | .rp e ys => ti.k = 2 ∧ te.sz = 1 ∧ 0 < te.bytes ∧ e = ti.elem ∧ 0 < ys.length ∧ kl.all (fun κ => !SV.menL κ (xs ++ ys)) = true ∧ (xs.length + ys.length) * te.bytes ≤ 140737488355328 ∧ SV.forceL (xs ++ ys) fun xs => k { x := .slc d, obj := some (.rp ti.elem xs), kill := kl.head? }
    | _ => False
   | _, _, _, _ => False)
  (hK : ∀ u a' w', k u → St C n F ok0 w0 (s.app o.dst u) a' w' → K a' w') : o.wp C.P a w K Q := by
 split at hvc
 ·rename_i te kl xs q eE ex ey eηd
  split at hvc
  ·rename_i e ys eηq
   obtain ⟨hk, hs1, hby, rfl, hyl, hkq, hbytes, hvc⟩ := hvc
   rw [SV.forceL_eq] at hvc
   have hry := ev_R h y
   rw [ey, R] at hry
   obtain ⟨hry, _⟩ := hry
   have hobq := h.η q
   rw [eηq] at hobq
   obtain ⟨⟨us, hrowq, hul, honeq, hrlq⟩, hnokq⟩ := hobq
   have hkq2 : ∀ κ ∈ SV.keysL ys, (s.η κ).live = true := fun κ hκ => h.wf.η q κ (by rw [eηq]; exact hκ)
   obtain ⟨vs, hrowx, hvl, honex, hrlx, hnokx, hkl, hdis⟩ : ∃ vs, w.ownsRow 0 ti.elem 1 (a.eval x) xs.length vs ∧ vs.length = xs.length ∧ (∀ u ∈ vs, one u) ∧ RL ok β w xs vs ∧ (∀ b, (a.eval x).ownBlock = some b → ¬ ok b ∧ may F w0 b) ∧ (∀ κ ∈ SV.keysL xs, (s.η κ).live = true) ∧
     (∀ b, (a.eval x).ownBlock = some b → ∃ κ, kl = [κ] ∧ (s.η κ).mine = true ∧ blockOf (β κ) = some b) := by
    have hrx := ev_R h x
    unfold rpOf at ex
    split at ex
    ·rename_i e1
     simp only [Option.some.injEq, Prod.mk.injEq] at ex
     obtain ⟨rfl, rfl⟩ := ex
     rw [e1, R, RP] at hrx
     rw [hrx]
     exact ⟨[], ⟨by simp, .inl ⟨rfl, rfl⟩⟩, rfl, by simp, trivial, by simp [Value.ownBlock], by simp [SV.keysL], by simp [Value.ownBlock]⟩
    ·rename_i κ e1
     split at ex
     ·rename_i e2 xs' eηx
      rw [beq_ite] at ex
      split at ex
      ·rename_i he
       subst he
       simp only [Option.some.injEq, Prod.mk.injEq] at ex
       obtain ⟨rfl, rfl⟩ := ex
       have hob := h.η κ
       rw [eηx] at hob
       obtain ⟨⟨vs, q1, q2, q3, q4⟩, q5⟩ := hob
       rw [e1, R] at hrx
       obtain ⟨hrx, _⟩ := hrx
       rw [hrx]
       exact ⟨vs, q1, q2, q3, q4, q5, fun κ' hκ' => h.wf.η κ κ' (by rw [eηx]; exact hκ'), fun b hb => ⟨κ, rfl, by rw [eηx]; rfl, ownBlock_blockOf hb⟩⟩
      ·cases ex
     ·cases ex
    ·cases ex
   obtain ⟨g, cap, cur, hβq, hheap, hcur⟩ : ∃ g cap cur, β q = .slice (some ⟨g, 0, none⟩) ys.length cap ∧ w.heap[g]? = some (.cells cur ti.elem (0, 0)) ∧ cur.toList.take (ys.length * 1) = us := by
    rcases hrowq.2 with ⟨_, h0⟩ | ⟨g, cap, cur, q1, _, q3, _, _, _, q7⟩
    ·omega
    ·exact ⟨g, cap, cur, q1, q3, q7⟩
   have hcell : ∀ j u, us[j]? = some u → w.cell? ((⟨g, 0, none⟩ : Addr).add j) = some u := by
    intro j u hj
    rw [add_plain, Nat.zero_add]
    simp only [World.cell?, hheap]
    rw [← hcur, List.getElem?_take] at hj
    split at hj
    ·simpa using hj
    ·cases hj
   obtain ⟨i, dd, z, h1, h2, h3, h4, h5, h6, h7, h8, _⟩ := (hC.ty _ _ eE).out
   have ht := (hC.ty _ _ eT).slice hk
   have hm : xs.length + ys.length ≤ maxLen := by
    simp only [maxLen]
    have : (xs.length + ys.length) * 1 ≤ (xs.length + ys.length) * te.bytes := Nat.mul_le_mul_left _ hby
    omega
   obtain ⟨v', w', g1, g2, g3, g4, g5⟩ := run_append_own_at (P := C.P) w 0 t o.type ti.elem i z 1 te.bytes ht h1 h5 (by rw [h3, hs1]) h4 (by rw [h7, hs1]) (by decide) (a.eval x) xs.length vs hrowx ⟨g, 0, none⟩ ys.length cap us (by rw [hul, Nat.mul_one]) hcell honeq hm hbytes (Nat.zero_le _)
   have hrun : (execOp a.eval o).run C.P w = .ok (.value v') w' := by
    have e2 : a.eval y = .slice (some ⟨g, 0, none⟩) ys.length cap := hry.trans hβq
    simp [execOp, ho, resolve, invoke, builtin, e2, g1]
   obtain ⟨s1, hs1'⟩ : ∃ s1, s1 = (match kl.head? with | some κ => s.kill κ | none => s) := ⟨_, rfl⟩
   have hS1 : StO C n F ok0 w0 ok β s1 a w := by
    rw [hs1']
    split
    ·exact h.kill _
    ·exact h
   have live1 : ∀ κ', (s1.η κ').live = true → (s.η κ').live = true ∧ kl.head? ≠ some κ' := by
    intro κ' hl
    rw [hs1'] at hl
    split at hl
    ·rename_i κ e1
     obtain ⟨q1, q2⟩ := kill_live.1 hl
     exact ⟨q1, by rw [e1]; exact fun e => q2 (Option.some.inj e).symm⟩
    ·rename_i e1
     exact ⟨hl, by rw [e1]; simp⟩
   have live2 : ∀ κ', (s.η κ').live = true → kl.head? ≠ some κ' → (s1.η κ').live = true := by
    intro κ' hl hne
    rw [hs1']
    split
    ·rename_i κ e1
     exact kill_live.2 ⟨hl, fun e => hne (by rw [e1, e])⟩
    ·exact hl
   have hno1 : s1.η d = .no := by
    rw [hs1']
    split
    ·rename_i κ e1
     show cond (Nat.beq d κ) .no ((s.η d).purge κ) = .no
     rw [eηd]
     cases Nat.beq d κ <;> rfl
    ·exact eηd
   have hbl : ∀ b, (a.eval x).ownBlock = some b → ¬ ok b ∧ may F w0 b ∧ ∀ κ', (s1.η κ').live = true → blockOf (β κ') ≠ some b := by
    intro b hb
    refine ⟨(hnokx b hb).1, (hnokx b hb).2, fun κ' hl hb' => ?_⟩
    obtain ⟨κ, hkl1, hmn, hbk⟩ := hdis b hb
    obtain ⟨q1, q2⟩ := live1 κ' hl
    have := (mine_block h hmn hbk).2.2 κ' q1 hb'
    rw [hkl1, this] at q2
    exact q2 rfl
   have hbel : Keep F w0 w' := h.below.grown g3 fun b hb => (hbl b hb).2.1
   have hkeep : ∀ b, b < w.heap.size → (ok b ∨ ∃ κ, (s1.η κ).live = true ∧ blockOf (β κ) = some b) → w'.heap[b]? = w.heap[b]? := by
    intro b hlt hb
    refine g3.block b hlt fun e => ?_
    rcases hb with hb | ⟨κ, hl, hb⟩
    ·exact (hbl b e.symm).1 hb
    ·exact (hbl b e.symm).2.2 κ hl hb
   have hnew : ∀ b, v'.ownBlock = some b → ¬ ok b ∧ (∀ κ, (s1.η κ).live = true → blockOf (β κ) ≠ some b) ∧ may F w0 b := by
    intro b hb
    rcases g5 with g5 | g5
    ·have := hbl b (g5 ▸ hb)
     exact ⟨this.1, this.2.2, this.2.1⟩
    ·have : b = w.heap.size := by rw [g5] at hb; simpa using hb.symm
     subst this
     exact ⟨fun hc => by have := h.lt _ hc; omega, fun κ hl hbk => by have := OB_lt (hS1.η κ) hl hbk; omega, .inr h.below.size⟩
   have hst : Stay ok w w' := fun b hb' hlt => hkeep b hlt (.inl hb')
   have hsl : ∃ A m c, v' = .slice A m c := by
    rcases g2.2 with ⟨h1, _⟩ | ⟨g, cap, cur, h1, _⟩
    ·exact ⟨_, _, _, h1⟩
    ·exact ⟨_, _, _, h1⟩
   have hvb : ∀ b, blockOf v' = some b → v'.ownBlock = some b := by
    intro b hb'
    obtain ⟨A, m, c, rfl⟩ := hsl
    cases A with
    | none => simp [blockOf] at hb'
    | some ad => simpa [blockOf, Value.ownBlock] using hb'
   have hkeys : ∀ κ ∈ SV.keysL (xs ++ ys), (s1.η κ).live = true := by
    intro κ hκ
    refine live2 κ ?_ fun e => ?_
    ·rw [keysL_append, List.mem_append] at hκ
     rcases hκ with hκ | hκ
     ·exact hkl κ hκ
     ·exact hkq2 κ hκ
    ·have hmem : κ ∈ kl := List.mem_of_mem_head? e
     have := List.all_eq_true.1 hkq κ hmem
     exact menL_keys (xs ++ ys) κ (by simpa using this) hκ
   refine wp_value hrun (hK _ _ _ hvc ?_)
   have happ : s.app o.dst { x := .slc d, obj := some (.rp ti.elem (xs ++ ys)), kill := kl.head? } = (s1.set d (.rp ti.elem (xs ++ ys))).put d (.slc d) := by
    rw [ed, hs1']
    unfold S.app
    cases kl.head? <;> rfl
   rw [happ, ed]
   have h2 := hS1.world hC (ok' := ok) hbel g3.size hkeep (fun _ h => h) (fun _ h => .inl h)
   refine ⟨ok, _, h2.addobj (hd d ed) (Nat.lt_of_lt_of_le (hd d ed) h.n2) hno1 (by obtain ⟨A, m, c, rfl⟩ := hsl; rfl) rfl (fun β' hβ hq => ⟨⟨vs ++ us, by rw [hq, List.length_append]; exact g2, by simp [hvl, hul], ?_, ?_⟩, fun b hb' => ?_⟩) hkeys fun b hb' κ hl hbk => (hnew b (hvb b hb')).2.1 κ hl hbk⟩
   ·intro u hu
    rcases List.mem_append.1 hu with hu | hu
    ·exact honex u hu
    ·exact honeq u hu
   ·exact RL_keys (fun κ hκ => hβ κ (hkeys κ hκ)) (RL_stay (fun _ h => h) hst (RL_app hrlx hrlq))
   ·rw [hq] at hb'
    exact ⟨(hnew b hb').1, (hnew b hb').2.2⟩
  ·exact hvc.elim
 ·exact hvc.elim
theorem op_append (hC : CxOk C) {c : Call} (ho : o.op = .call c) (hb : c.callee = .builtin .append) (h : StO C n F ok0 w0 ok β s a w) (hd : ∀ d, o.dst = some d → d < n) (hvc : VC C own o s.ev s.η k)
  (hK : ∀ u a' w', k u → St C n F ok0 w0 (s.app o.dst u) a' w' → K a' w') : o.wp C.P a w K Q := by
 obtain ⟨callee, args, argTypes⟩ := c
 subst hb
 simp only [VC, ho] at hvc
 split at hvc
 ·rename_i d x y t t' ed eA eTy
  rw [beq_ite] at hvc
  split at hvc
  ·rename_i htt
   subst htt
   have hargs : args = #[x, y] := by
    apply Array.ext'
    simpa using eA
   have hty : argTypes = #[t, t] := by
    apply Array.ext'
    simpa using eTy
   subst hargs hty
   split at hvc
   ·rename_i ti eT
    cases h40 : own (d + 400000) with
    | true =>
     rw [h40] at hvc
     simp only [cond_true] at hvc
     cases h60 : own (d + 600000) with
     | true =>
      rw [h60] at hvc
      exact append_rr hC ho h hd ed eT hvc hK
     | false =>
     rw [h60] at hvc
     simp only [cond_false] at hvc
     exact append_rp hC ho h hd ed eT hvc hK
    | false =>
    rw [h40] at hvc
    simp only [cond_false] at hvc
    split at hvc
    ·rename_i te M eE eM
     obtain ⟨hk, hpos, hby, hall, hvc⟩ := hvc
     have hrx := ev_R h x
     have hry := ev_R h y
     have fin : ∀ (s1 : S) (L : List PV) (xs : List Value) (v : Value) (u : U) (q : Nat), StO C n F ok0 w0 ok β s1 a w → a.eval x = v → w.ownsRow 0 ti.elem te.sz v L.length xs → RRow ok w te.sz L xs → (L.length + M.length) * te.bytes ≤ 140737488355328 →
       (∀ b, v.ownBlock = some b → ¬ ok b ∧ may F w0 b ∧ ∀ κ, (s1.η κ).live = true → blockOf (β κ) ≠ some b) → s1.η q = .no → q < 2000 → k u →
       s.app (some d) u = cond (own d) ((s1.set q (.row ti.elem te.sz (L ++ M))).put d (.slc q)) (s1.put d (.p (.lst (L ++ M)))) → o.wp C.P a w K Q := by
      intro s1 L xs v u q h1 e1 hrow hrr hbytes hbl hno hq2 hu happ
      obtain ⟨v', w', ys, g1, g2, g3, g4, g5⟩ := run_append hC eT eE hk hpos (ty := o.type) eM hry hall hrow hrr hbytes hby (Nat.zero_le _) (fun b hb => (hbl b hb).1)
      have hrun : (execOp a.eval o).run C.P w = .ok (.value v') w' := by simp [execOp, ho, resolve, invoke, builtin, e1, g1]
      have hbel : Keep F w0 w' := h.below.grown g4 fun b hb => (hbl b hb).2.1
      have hkeep : ∀ b, b < w.heap.size → (ok b ∨ ∃ κ, (s1.η κ).live = true ∧ blockOf (β κ) = some b) → w'.heap[b]? = w.heap[b]? := by
       intro b hlt hb
       refine g4.block b hlt fun e => ?_
       rcases hb with hb | ⟨κ, hl, hb⟩
       ·exact (hbl b e.symm).1 hb
       ·exact (hbl b e.symm).2.2 κ hl hb
      have hnew : ∀ b, v'.ownBlock = some b → ¬ ok b ∧ (∀ κ, (s1.η κ).live = true → blockOf (β κ) ≠ some b) ∧ b < w'.heap.size ∧ may F w0 b := by
       intro b hb
       rcases g5 with g5 | g5
       ·have := hbl b (g5 ▸ hb)
        exact ⟨this.1, this.2.2, (g2.lt b hb).2, this.2.1⟩
       ·have : b = w.heap.size := by rw [g5] at hb; simpa using hb.symm
        subst this
        exact ⟨fun hc => by have := h.lt _ hc; omega, fun κ hl hbk => by have := OB_lt (h1.η κ) hl hbk; omega, (g2.lt _ hb).2, .inr h.below.size⟩
      refine wp_value hrun (hK u _ _ hu ?_)
      rw [ed, happ]
      cases ho' : own d with
      | true =>
       have h2 := h1.world hC (ok' := ok) hbel g4.size hkeep (fun _ h => h) (fun _ h => .inl h)
       exact ⟨ok, _, h2.addrow (hd d ed) hq2 hno hpos g2 g3 fun b hb => ⟨(hnew b hb).1, (hnew b hb).2.2.2, (hnew b hb).2.1⟩⟩
      | false =>
       have h2 := h1.world hC (ok' := fun b => ok b ∨ v'.ownBlock = some b) hbel g4.size hkeep (fun _ h => .inl h) (fun b hb => by
        rcases hb with hb | hb
        ·exact .inl hb
        ·exact .inr ⟨(hnew b hb).2.2.1, (hnew b hb).2.2.2, (hnew b hb).2.1⟩)
       exact ⟨_, _, h2.put (hd d ed) (row_lst g2 g3 (fun _ h => .inl h) fun b hb => .inr hb) (by intro κ hκ; cases hκ)⟩
     split at hvc
     ·rename_i ex
      split at hvc
      ·rename_i eη
       obtain ⟨hbytes, hvc⟩ := hvc
       rw [ex, R, RP] at hrx
       cases ho' : own d with
       | true =>
        rw [ho'] at hvc
        exact fin s [] [] _ _ d h hrx ⟨by simp, .inl ⟨rfl, rfl⟩⟩ ⟨by simp, fun i x hx => by simp at hx⟩ (by simpa using hbytes) (fun b hb => by simp [Value.ownBlock] at hb) eη (Nat.lt_of_lt_of_le (hd d ed) h.n2) hvc (by simp [S.app, ho'])
       | false =>
        rw [ho'] at hvc
        exact fin s [] [] _ _ d h hrx ⟨by simp, .inl ⟨rfl, rfl⟩⟩ ⟨by simp, fun i x hx => by simp at hx⟩ (by simpa using hbytes) (fun b hb => by simp [Value.ownBlock] at hb) eη (Nat.lt_of_lt_of_le (hd d ed) h.n2) hvc (by simp [S.app, ho'])
      ·exact hvc.elim
     ·rename_i κ ex
      split at hvc
      ·rename_i e sz L eη
       obtain ⟨hκ2, rfl, rfl, hbytes, hvc⟩ := hvc
       have hκ2 : κ < 2000 := by simpa [Nat.blt_eq] using hκ2
       rw [ex, R] at hrx
       obtain ⟨hrx, _⟩ := hrx
       have hob := h.η κ
       rw [eη] at hob
       obtain ⟨_, ⟨xs, hrow, hrr⟩, hnok⟩ := hob
       have hmine : (s.η κ).mine = true := by rw [eη]; rfl
       have hno : (s.kill κ).η κ = .no := by
        show cond (Nat.beq κ κ) .no ((s.η κ).purge κ) = .no
        rw [beq_ite, if_pos rfl]
       have hbl : ∀ b, (β κ).ownBlock = some b → ¬ ok b ∧ may F w0 b ∧ ∀ κ', ((s.kill κ).η κ').live = true → blockOf (β κ') ≠ some b := by
        intro b hb
        refine ⟨(hnok b hb).1, (hnok b hb).2, fun κ' hl hb' => ?_⟩
        obtain ⟨hl, hne⟩ := kill_live.1 hl
        exact hne ((mine_block h hmine (ownBlock_blockOf hb)).2.2 κ' hl hb')
       cases h20 : own (d + 200000) with
       | true =>
        rw [h20] at hvc
        simp only [cond_true] at hvc
        obtain ⟨ho', hvc⟩ := hvc
        split at hvc
        ·rename_i eηd
         have hnd : (s.kill κ).η d = .no := by
          show cond (Nat.beq d κ) .no ((s.η d).purge κ) = .no
          rw [eηd]
          cases Nat.beq d κ <;> rfl
         exact fin (s.kill κ) L xs _ _ d (h.kill κ) hrx hrow hrr hbytes hbl hnd (Nat.lt_of_lt_of_le (hd d ed) h.n2) hvc (by simp [S.app, ho'])
        ·exact hvc.elim
       | false =>
       rw [h20] at hvc
       simp only [cond_false] at hvc
       cases ho' : own d with
       | true =>
        rw [ho'] at hvc
        exact fin (s.kill κ) L xs _ _ κ (h.kill κ) hrx hrow hrr hbytes hbl hno hκ2 hvc (by simp [S.app, ho'])
       | false =>
        rw [ho'] at hvc
        exact fin (s.kill κ) L xs _ _ κ (h.kill κ) hrx hrow hrr hbytes hbl hno hκ2 hvc (by simp [S.app, ho'])
      ·exact hvc.elim
     ·exact hvc.elim
    ·exact hvc.elim
   ·exact hvc.elim
  ·exact hvc.elim
 ·exact hvc.elim
theorem op_mv (hC : CxOk C) {x : Operand} (ho : o.op = .move x ∨ o.op = .assign x) (h : StO C n F ok0 w0 ok β s a w) (hd : ∀ d, o.dst = some d → d < n) (hvc : VC C own o s.ev s.η k)
  (hK : ∀ u a' w', k u → St C n F ok0 w0 (s.app o.dst u) a' w' → K a' w') : o.wp C.P a w K Q := by
 have hvc : mvVC C own o.dst o.type s.η (s.ev x) k := by
  rcases ho with ho | ho <;> (simp only [VC, ho] at hvc; exact hvc)
 unfold mvVC at hvc
 cases e : ownNil own o.dst (s.ev x) with
 | false =>
  rw [e] at hvc
  exact op_move ho h hd hvc hK
 | true =>
  rw [e] at hvc
  simp only [cond_true] at hvc
  split at hvc
  ·rename_i d ti ed et
   split at hvc
   ·rename_i te eη ete
    obtain ⟨hpos, hvc⟩ := hvc
    have hx : s.ev x = .p .nilS := by
     rw [ed] at e
     unfold ownNil at e
     split at e
     ·assumption
     ·cases e
    have hr := ev_R h x
    rw [hx, R, RP] at hr
    have hrun : (execOp a.eval o).run C.P w = .ok (.value (.slice none 0 0)) w := by rcases ho with ho | ho <;> simp [execOp, ho, hr]
    refine wp_value hrun (hK _ _ _ hvc ?_)
    rw [ed]
    have hrow : w.ownsRow 0 ti.elem te.sz (.slice none 0 0) ([] : List PV).length [] := ⟨by simp, .inl ⟨rfl, rfl⟩⟩
    exact ⟨ok, _, h.addrow (hd d ed) (Nat.lt_of_lt_of_le (hd d ed) h.n2) eη hpos hrow ⟨by simp, fun i x hx => by simp at hx⟩ fun b hb => by simp [Value.ownBlock] at hb⟩
   ·exact hvc.elim
  ·exact hvc.elim
theorem bytes_vals : ∀ {l : List UInt8} {vs : List Value}, RPL ok w (bytesL l) vs → vs = l.map fun c => .int .u8 c.toNat
 | [], [], h => rfl
 | [], _ :: _, h => h.elim
 | _ :: _, [], h => h.elim
 | c :: l, v :: vs, h => by
  obtain ⟨h1, h2⟩ := h
  rw [RP] at h1
  rw [List.map_cons, h1, bytes_vals h2]
theorem push_bytes : ∀ (l : List UInt8) (b : ByteArray), (l.map fun c => (c.toNat : Int)).foldl (fun (r : ByteArray) n => r.push (UInt8.ofNat n.toNat)) b = ⟨b.data ++ l.toArray⟩
 | [], b => by simp
 | c :: l, b => by
  rw [List.map_cons, List.foldl_cons, push_bytes l]
  simp [ByteArray.push]
theorem flat_ones : ∀ {l : List UInt8}, flat (l.map fun c => Value.int .u8 c.toNat) = l.map fun c => Value.int .u8 c.toNat
 | [] => rfl
 | c :: l => by
  show (Value.int .u8 c.toNat).cells.toList ++ flat (l.map _) = _
  rw [flat_ones]
  simp [Value.cells]
theorem freeze_heap {w : World} {g k : Nat} {cur : Array Value} {e : TypeId} (h : w.heap[g]? = some (.cells cur e (0, 0))) : (w.freeze ⟨g, k, none⟩ 1).heap[g]? = some (.cells cur e (k, k + 1)) ∧ (∀ b, b ≠ g → (w.freeze ⟨g, k, none⟩ 1).heap[b]? = w.heap[b]?) ∧ (w.freeze ⟨g, k, none⟩ 1).heap.size = w.heap.size ∧
  (w.freeze ⟨g, k, none⟩ 1).os = w.os ∧ (w.freeze ⟨g, k, none⟩ 1).tape = w.tape ∧ (w.freeze ⟨g, k, none⟩ 1).output = w.output := by
 unfold World.freeze
 rw [if_neg (by decide)]
 refine ⟨?_, fun b hb => ?_, by simp, rfl, rfl, rfl⟩
 ·simp [Array.getElem?_modify, h]
 ·simp only [Array.getElem?_modify]
  rw [if_neg (fun e => hb e.symm)]
theorem op_convert_row (hC : CxOk C) {t : TypeId} {x : Operand} (ho : o.op = .convert t t x) (h : StO C n F ok0 w0 ok β s a w) (hd : ∀ d, o.dst = some d → d < n) {ti : TI} (et : C.T t = some ti) {κ sz : Nat} {L : List PV} (ex : s.ev x = .slc κ) (eη : s.η κ = .row ti.elem sz L) (hk : ti.k = 2) (hu8 : isU8 (C.T ti.elem) = true) (hpos : 0 < L.length) (hvc : k { x := .p (.lst L), kill := some κ })
  (hK : ∀ u a' w', k u → St C n F ok0 w0 (s.app o.dst u) a' w' → K a' w') : o.wp C.P a w K Q := by
 have hsl := (hC.ty _ _ et).slice hk
 have hel : C.P.underlying ti.elem = some (.int .u8) := by
  unfold isU8 at hu8
  split at hu8
  ·rename_i te ete
   split at hu8
   ·rename_i z0 ez
    obtain ⟨j2, hu, hz⟩ := (hC.ty _ _ ete).int (Nat.eq_of_beq_eq_true hu8)
    rw [ez] at hz
    simp only [PV.int.injEq] at hz
    obtain ⟨rfl, _⟩ := hz
    exact hu
   ·cases hu8
  ·cases hu8
 have hr := ev_R h x
 rw [ex, R] at hr
 have hob := h.η κ
 rw [eη] at hob
 obtain ⟨hsz, ⟨xs, hrow, hrr⟩, hnok⟩ := hob
 have hmine : (s.η κ).mine = true := by rw [eη]; rfl
 obtain ⟨g, cap, cur, hβ, hg0, hheap, c1, c2, c3, c4⟩ : ∃ g cap cur, β κ = .slice (some ⟨g, 0, none⟩) L.length cap ∧ 0 ≤ g ∧ w.heap[g]? = some (.cells cur ti.elem (0, 0)) ∧ L.length ≤ cap ∧ cap ≤ maxLen ∧ cur.size = cap * sz ∧ cur.toList.take (L.length * sz) = xs := by
  rcases hrow.2 with ⟨_, q⟩ | ⟨g, cap, cur, q⟩
  ·omega
  ·exact ⟨g, cap, cur, q⟩
 have hbk : blockOf (β κ) = some g := by rw [hβ]; rfl
 obtain ⟨q1, q2, q3⟩ := mine_block h hmine hbk
 obtain ⟨f1, f2, f3, f4, f5, f6⟩ := freeze_heap (k := cur.size) hheap
 have hsh : w.shape? g = some (ti.elem, cur.size) := by unfold World.shape?; rw [hheap]
 have hrun : (execOp a.eval o).run C.P w = .ok (.value (β κ)) (w.freeze ⟨g, cur.size, none⟩ 1) := by
  simp [execOp, ho, hr.1, hβ, convert, run_underlying hsl, run_underlying hel, markStringish, hsh]
 obtain ⟨w', hw'⟩ : ∃ w', w' = w.freeze ⟨g, cur.size, none⟩ 1 := ⟨_, rfl⟩
 rw [← hw'] at f1 f2 f3 f4 f5 f6 hrun
 have hst : Stay ok w w' := fun b hb _ => f2 b fun e => q1 (e ▸ hb)
 have hkill := h.kill κ
 have hbel : Keep F w0 w' := h.below.step f4 f5 f6 (by omega) fun i hi hm2 => f2 i fun e => hm2 (e ▸ q2)
 have hne : ∀ κ', ((s.kill κ).η κ').live = true → blockOf (β κ') ≠ some g := fun κ' hl hb => by
  have := kill_live.1 hl
  exact this.2 (q3 κ' this.1 hb)
 have h2 := hkill.world hC (w' := w') (ok' := fun b => ok b ∨ b = g) hbel (by omega) (fun b hlt hb => by
  rcases hb with hb | ⟨κ', hl, hb⟩
  ·exact f2 b fun e => q1 (e ▸ hb)
  ·exact f2 b fun e => hne κ' hl (e ▸ hb)) (fun b hb => .inl hb) (fun b hb => by
  rcases hb with hb | rfl
  ·exact .inl hb
  ·exact .inr ⟨by rw [f3]; exact (Array.getElem?_eq_some_iff.1 hheap).1, q2, hne⟩)
 have hval : RP (fun b => ok b ∨ b = g) w' (.lst L) (β κ) := by
  rw [RP]
  refine ⟨some ⟨g, 0, none⟩, cap, sz, hβ, c1, c2, RPE_of fun i y hy => ?_⟩
  obtain ⟨c, hc, he⟩ := hrr.2 i y hy
  have hlt : i < L.length := (List.getElem?_eq_some_iff.1 hy).1
  have hmul : i * sz + sz ≤ L.length * sz := by
   rw [← Nat.succ_mul]
   exact Nat.mul_le_mul_right _ hlt
  have hcs : c.cells.size = sz := by
   have := congrArg List.length he
   rw [List.length_take, List.length_drop, hrr.1] at this
   simp at this
   omega
  refine ⟨_, c, rfl, .inr rfl, RP_stay (fun b hb => .inl hb) hst hc, hcs, fun j u hj => ?_⟩
  rw [add_plain]
  simp only [World.cell?, f1]
  have hj' : c.cells.toList[j]? = some u := by simpa using hj
  rw [he] at hj'
  have h5 := getElem?_sub hj'
  rw [← c4, List.getElem?_take] at h5
  split at h5
  ·simpa using h5
  ·cases h5
 refine wp_value hrun (hK _ _ _ hvc ?_)
 show St C n F ok0 w0 (s.app o.dst { x := .p (.lst L), kill := some κ }) (a.put o.dst (β κ)) w'
 cases ed : o.dst with
 | none => exact ⟨_, _, h2⟩
 | some d => exact ⟨_, _, h2.put (hd d ed) (x := .p (.lst L)) hval (by intro κ' hκ'; cases hκ')⟩
theorem op_convert (hC : CxOk C) {t t' : TypeId} {x : Operand} (ho : o.op = .convert t t' x) (h : StO C n F ok0 w0 ok β s a w) (hd : ∀ d, o.dst = some d → d < n) (hvc : VC C own o s.ev s.η k)
  (hK : ∀ u a' w', k u → St C n F ok0 w0 (s.app o.dst u) a' w' → K a' w') : o.wp C.P a w K Q := by
 simp only [VC, ho] at hvc
 split at hvc
 ·rename_i ti ti' et et'
  obtain ⟨d1, hd1⟩ := (hC.ty _ _ et).und
  split at hvc
  ·rename_i j m ex
   split at hvc
   ·rename_i j' z0 ez
    obtain ⟨hk, r, rfl, hvc⟩ := hvc
    obtain ⟨j2, hu, hz⟩ := (hC.ty _ _ et').int hk
    rw [ez] at hz
    simp only [PV.int.injEq] at hz
    obtain ⟨rfl, _⟩ := hz
    have hx := ev_int h ex
    refine wp_read h hd hK (v := .int j' (j'.wrap m)) ?_ hvc (by rw [R, RP]) (by intro κ hκ; cases hκ)
    simp [execOp, ho, hx, convert, run_underlying hd1, run_underlying hu, Conv.intToInt]
   ·rename_i z0 ez
    obtain ⟨hk, l, hl, hvc⟩ := hvc
    have hu := (hC.ty _ _ et').string hk
    have hx := ev_int h ex
    refine wp_read h hd hK (v := .string ⟨l.toArray⟩) ?_ hvc (by rw [R, RP]) (by intro κ hκ; cases hκ)
    simp [execOp, ho, hx, convert, run_underlying hd1, run_underlying hu, Conv.intToString, hl]
   ·exact hvc.elim
  ·rename_i L ex
   obtain ⟨hk, hk', hu8, l, rfl, hvc⟩ := hvc
   have hsl := (hC.ty _ _ et).slice hk
   have hst := (hC.ty _ _ et').string hk'
   have hel : C.P.underlying ti.elem = some (.int .u8) := by
    unfold isU8 at hu8
    split at hu8
    ·rename_i te ete
     split at hu8
     ·rename_i z0 ez
      obtain ⟨j2, hu, hz⟩ := (hC.ty _ _ ete).int (Nat.eq_of_beq_eq_true hu8)
      rw [ez] at hz
      simp only [PV.int.injEq] at hz
      obtain ⟨rfl, _⟩ := hz
      exact hu
     ·cases hu8
    ·cases hu8
   have hr := ev_R h x
   rw [ex, R, RP] at hr
   obtain ⟨A, cap, sz, h1, h2, h3, h4⟩ := hr
   have hrun : (Conv.bytesToString (a.eval x)).run C.P w = .ok (.string ⟨l.toArray⟩) w := by
    rw [h1]
    cases A with
    | none =>
     have hl : l = [] := by
      cases l with
      | nil => rfl
      | cons c l =>
       obtain ⟨⟨ad, c, h5, _⟩, _⟩ := h4
       cases h5
     subst hl
     rfl
    | some ad =>
     obtain ⟨vs, q1, q2, q3⟩ := RPE_vals h4
     have hvs := bytes_vals q1
     have hfl : flat vs = l.map fun c => Value.int .u8 c.toNat := by rw [hvs]; exact flat_ones
     have hcell : ∀ j u, (flat vs)[j]? = some u → w.cell? (ad.add j) = some u := by
      intro j u hj
      simpa using q3 ad rfl j u hj
     have hlen : (flat vs).length = (bytesL l).length := by rw [hfl]; simp [bytesL]
     have hload := run_loadCells_list (P := C.P) w ad (flat vs) hcell
     rw [hlen] at hload
     have := run_bytesToString (P := C.P) w ad (bytesL l).length cap (l.map fun c => (c.toNat : Int)) (by
      rw [hload, hfl, List.map_map]
      rfl)
     rw [this, push_bytes]
     simp
   refine wp_read h hd hK (v := .string ⟨l.toArray⟩) ?_ hvc (by rw [R, RP]) (by intro κ hκ; cases hκ)
   have hconv : (convert t t' (a.eval x)).run C.P w = .ok (.string ⟨l.toArray⟩) w := by
    rw [h1] at hrun ⊢
    cases A <;> simp [convert, run_underlying hsl, run_underlying hst, run_underlying hel, hrun]
   simp [execOp, ho, hconv]
  ·rename_i κ ex
   split at hvc
   ·rename_i e sz L eη
    obtain ⟨rfl, hk, rfl, hu8, hpos, hvc⟩ := hvc
    exact op_convert_row hC ho h hd et ex eη hk hu8 hpos hvc hK
   ·exact hvc.elim
  ·exact hvc.elim
 ·exact hvc.elim
theorem op_take (hC : CxOk C) {t : TypeId} {x : Operand} {lo hi mx : Option Operand} (ho : o.op = .slice t x lo hi mx) (h : StO C n F ok0 w0 ok β s a w) (hd : ∀ d, o.dst = some d → d < n) (hvc : tkVC C o.dst t (s.ev x) s.ev lo hi mx s.η k)
  (hK : ∀ u a' w', k u → St C n F ok0 w0 (s.app o.dst u) a' w' → K a' w') : o.wp C.P a w K Q := by
 unfold tkVC at hvc
 split at hvc
 ·rename_i d ti κ ed eT ex
  split at hvc
  ·rename_i e sz L te eη eE
   obtain ⟨hk, rfl, hmx, hpos, hvc⟩ := hvc
   have hmx' : mx = none := by simpa using hmx
   subst hmx'
   have hu := run_underlying (P := C.P) ((hC.ty _ _ eT).slice hk) w
   have hsz := (hC.ty _ _ eE).size w
   have hrx := ev_R h x
   rw [ex, R] at hrx
   obtain ⟨hrx, _⟩ := hrx
   have hob := h.η κ
   rw [eη] at hob
   obtain ⟨hp0, ⟨xs, hrow, hrr⟩, hnok⟩ := hob
   obtain ⟨g, cap, cur, hβ, hg, hheap, c1, c2, c3, c4⟩ : ∃ g cap cur, β κ = .slice (some ⟨g, 0, none⟩) L.length cap ∧ 0 ≤ g ∧ w.heap[g]? = some (.cells cur e (0, 0)) ∧ L.length ≤ cap ∧ cap ≤ maxLen ∧ cur.size = cap * te.sz ∧ cur.toList.take (L.length * te.sz) = xs := by
    rcases hrow.2 with ⟨_, q⟩ | ⟨g, cap, cur, q⟩
    ·omega
    ·exact ⟨g, cap, cur, q⟩
   rw [hβ] at hrx
   split at hvc
   ·rename_i lo
    rcases bnd_spec h hvc with ⟨hc, _⟩ | ⟨y1, j1, m1, hy1, e1, p1, hlt, hu2⟩
    ·cases hc
    ·cases hy1
     have hkx := ev_keys h x
     rw [ex] at hkx
     refine wp_read h hd hK (x := .tl κ te.sz m1.toNat) (v := .slice (some ((⟨g, 0, none⟩ : Addr).add (m1.toNat * te.sz))) (L.length - m1.toNat) (cap - m1.toNat)) ?_ hu2 ?_ hkx
     ·have hne : ¬ cap = m1.toNat := by omega
      simp [execOp, ho, hrx, Instr.sliceAt, Instr.slice, hu, hsz, Instr.sliceBounds, e1, run_sliceBound (P := C.P) (w := w) (j := j1) (code := .sliceB) p1 (show m1.toNat ≤ L.length by omega), hne]
     ·rw [R]
      exact ⟨g, _, cap, hβ, rfl⟩
   ·rename_i hi
    rcases bnd_spec h hvc with ⟨hc, _⟩ | ⟨y1, j1, m1, hy1, e1, p1, hle, hκ2, hu2⟩
    ·cases hc
    ·cases hy1
     have hκ2 : κ < 2000 := by simpa [Nat.blt_eq] using hκ2
     have hmine : (s.η κ).mine = true := by rw [eη]; rfl
     have hno : (s.kill κ).η κ = .no := by
      show cond (Nat.beq κ κ) .no ((s.η κ).purge κ) = .no
      rw [beq_ite, if_pos rfl]
     have hbk : (β κ).ownBlock = some g := by rw [hβ]; rfl
     have hlen : (L.take m1.toNat).length = m1.toNat := by rw [List.length_take]; omega
     have hmul : m1.toNat * te.sz ≤ L.length * te.sz := Nat.mul_le_mul_right _ hle
     have hmul2 : L.length * te.sz ≤ cap * te.sz := Nat.mul_le_mul_right _ c1
     refine wp_value (v := .slice (some ⟨g, 0, none⟩) m1.toNat cap) (w' := w) ?_ (hK _ _ _ hu2 ?_)
     ·have hb : (Instr.sliceBounds true L.length cap none (some (a.eval hi)) none).run C.P w = .ok (0, m1.toNat, cap) w := by
       simp [Instr.sliceBounds, e1, run_sliceBound (P := C.P) (w := w) (j := j1) (code := .sliceAcap) p1 (show m1.toNat ≤ cap by omega)]
      simp only [execOp, ho, hrx, Option.map_none, Option.map_some]
      simp [Instr.sliceAt, Instr.slice, hu, hsz, hb]
      exact fun _ => rfl
     ·rw [ed]
      have hrow' : w.ownsRow 0 e te.sz (.slice (some ⟨g, 0, none⟩) m1.toNat cap) (L.take m1.toNat).length (xs.take (m1.toNat * te.sz)) := by
       rw [hlen]
       refine ⟨by rw [List.length_take, hrr.1]; omega, .inr ⟨g, cap, cur, rfl, hg, hheap, by omega, c2, c3, ?_⟩⟩
       rw [← c4, List.take_take, Nat.min_eq_left hmul]
      have hrr' : RRow ok w te.sz (L.take m1.toNat) (xs.take (m1.toNat * te.sz)) := by
       refine ⟨by rw [List.length_take, hrr.1, hlen]; omega, fun i y hy => ?_⟩
       rw [List.getElem?_take] at hy
       split at hy
       ·rename_i hi'
        obtain ⟨c, hc, hce⟩ := hrr.2 i y hy
        refine ⟨c, hc, ?_⟩
        have : i * te.sz + te.sz ≤ m1.toNat * te.sz := by
         rw [← Nat.succ_mul]
         exact Nat.mul_le_mul_right _ hi'
        rw [hce, List.drop_take, List.take_take]
        congr 1
        omega
       ·cases hy
      have := (h.kill κ).addrow (d := d) (q := κ) (hd d ed) hκ2 hno hp0 hrow' hrr' (fun b hb => by
       have hb : b = g := by simpa [Value.ownBlock] using hb.symm
       subst hb
       refine ⟨(hnok b hbk).1, (hnok b hbk).2, fun κ' hl hb' => ?_⟩
       obtain ⟨hl, hne⟩ := kill_live.1 hl
       exact hne ((mine_block h hmine (ownBlock_blockOf hbk)).2.2 κ' hl hb'))
      exact ⟨ok, _, this⟩
   ·exact hvc.elim
  ·exact hvc.elim
 ·exact hvc.elim
theorem op_slice (hC : CxOk C) {t : TypeId} {x : Operand} {lo hi mx : Option Operand} (ho : o.op = .slice t x lo hi mx) (h : StO C n F ok0 w0 ok β s a w) (hd : ∀ d, o.dst = some d → d < n) (hvc : VC C own o s.ev s.η k)
  (hK : ∀ u a' w', k u → St C n F ok0 w0 (s.app o.dst u) a' w' → K a' w') : o.wp C.P a w K Q := by
 simp only [VC, ho] at hvc
 cases htk : takeB own o.dst with
 | true =>
  rw [htk] at hvc
  simp only [cond_true] at hvc
  exact op_take hC ho h hd hvc hK
 | false =>
 rw [htk] at hvc
 simp only [cond_false] at hvc
 split at hvc
 ·rename_i ti L eT e
  obtain ⟨hk, hmx, ⟨te, eE, hall⟩, hv1⟩ := hvc
  have hr := ev_R h x
  rw [e, R, RP] at hr
  obtain ⟨A, cap, sz, h1, h2, h3, h4⟩ := hr
  have hu := run_underlying (P := C.P) ((hC.ty _ _ eT).slice hk) w
  have hsz := (hC.ty _ _ eE).size w
  have fin : ∀ (l hh M : Nat), l ≤ hh → hh ≤ M → hh ≤ L.length → M ≤ cap → k { x := .p (.lst (cut L l hh)) } →
    (Instr.sliceBounds true L.length cap (lo.map a.eval) (hi.map a.eval) (mx.map a.eval)).run C.P w = .ok (l, hh, M) w → o.wp C.P a w K Q := by
   intro l hh M q1 q2 q3 q4 hu2 hb
   refine wp_read h hd hK (v := .slice (if M = l then A else A.map (·.add (l * te.sz))) (hh - l) (M - l)) ?_ hu2 ?_ (by intro κ hκ; cases hκ)
   ·simp [execOp, ho, h1, Instr.sliceAt, Instr.slice, hu, hb, hsz]
   ·rw [R, RP]
    refine ⟨_, M - l, te.sz, by rw [cut_length q3], by rw [cut_length q3]; omega, by omega, RPE_of fun i y hy => ?_⟩
    have hy2 := cut_get hy
    have hlt : i < hh - l := by rw [← cut_length q3]; exact (List.getElem?_eq_some_iff.1 hy).1
    obtain ⟨ad, c, rfl, h5, h6, h7, h8⟩ := RPE_get h4 hy2
    have hsh : y.shape = (te.agg, te.sz) := by
     have key : ∀ (L : List PV) (j : Nat), allSz (te.agg, te.sz) L → L[j]? = some y → y.shape = (te.agg, te.sz) := by
      intro L
      induction L with
      | nil => intro j _ hj; simp at hj
      | cons z L ih =>
       intro j hz hj
       cases j with
       | zero => simp at hj; subst hj; exact hz.1
       | succ j => exact ih j hz.2 (by simpa using hj)
     exact key L _ hall hy2
    have hce : sz = te.sz := by rw [← h7, (RP_one h6).2.1, hsh]
    subst hce
    refine ⟨ad.add (l * te.sz), c, by rw [if_neg (by omega)]; rfl, by rw [add_block]; exact h5, h6, h7, fun q u hq => ?_⟩
    rw [add_add]
    have := h8 q u hq
    rwa [show l * te.sz + ((0 + i) * te.sz + q) = (0 + (l + i)) * te.sz + q by rw [Nat.zero_add, Nat.zero_add, Nat.add_mul]; omega]
  rcases bnd_spec h hv1 with ⟨rfl, hv2⟩ | ⟨y1, j1, m1, rfl, e1, p1, hv2⟩ <;> rcases bnd_spec h hv2 with ⟨rfl, hv3⟩ | ⟨y2, j2, m2, rfl, e2, p2, hv3⟩ <;> rcases bnd_spec h hv3 with ⟨rfl, hv4⟩ | ⟨y3, j3, m3, rfl, e3, p3, hv4⟩ <;>
   obtain ⟨c1, c2, c3, hvc⟩ := hv4
  ·exact fin 0 L.length cap (by omega) h2 (by omega) (by omega) hvc (by simp [Instr.sliceBounds])
  ·simp at hmx
  ·exact fin 0 m2.toNat cap (by omega) (by omega) (by omega) (by omega) hvc (by simp [Instr.sliceBounds, e2, run_sliceBound (P := C.P) (w := w) (j := j2) (code := .sliceAcap) p2 (show m2.toNat ≤ cap by omega)])
  ·exact fin 0 m2.toNat m3.toNat (by omega) (by omega) (by omega) (by omega) hvc (by simp [Instr.sliceBounds, e2, e3, run_sliceBound (P := C.P) (w := w) (j := j3) (code := .slice3Acap) p3 (show m3.toNat ≤ cap by omega), run_sliceBound (P := C.P) (w := w) (j := j2) (code := .slice3B) p2 (show m2.toNat ≤ m3.toNat by omega)])
  ·exact fin m1.toNat L.length cap (by omega) h2 (by omega) (by omega) hvc (by simp [Instr.sliceBounds, e1, run_sliceBound (P := C.P) (w := w) (j := j1) (code := .sliceB) p1 (show m1.toNat ≤ L.length by omega)])
  ·simp at hmx
  ·exact fin m1.toNat m2.toNat cap (by omega) (by omega) (by omega) (by omega) hvc (by simp [Instr.sliceBounds, e1, e2, run_sliceBound (P := C.P) (w := w) (j := j2) (code := .sliceAcap) p2 (show m2.toNat ≤ cap by omega), run_sliceBound (P := C.P) (w := w) (j := j1) (code := .sliceB) p1 (show m1.toNat ≤ m2.toNat by omega)])
  ·exact fin m1.toNat m2.toNat m3.toNat (by omega) (by omega) (by omega) (by omega) hvc (by simp [Instr.sliceBounds, e1, e2, e3, run_sliceBound (P := C.P) (w := w) (j := j3) (code := .slice3Acap) p3 (show m3.toNat ≤ cap by omega), run_sliceBound (P := C.P) (w := w) (j := j2) (code := .slice3B) p2 (show m2.toNat ≤ m3.toNat by omega), run_sliceBound (P := C.P) (w := w) (j := j1) (code := .slice3C) p1 (show m1.toNat ≤ m2.toNat by omega)])
 ·rename_i ti l eT e
  obtain ⟨hk, hmx, hv1⟩ := hvc
  have h1 := ev_str h e
  have hu := run_underlying (P := C.P) ((hC.ty _ _ eT).string hk) w
  have hsize : (ByteArray.mk l.toArray).size = l.length := by simp [ByteArray.size]
  have hmx' : mx = none := by simpa using hmx
  subst hmx'
  have fin : ∀ (q hh : Nat), q ≤ hh → hh ≤ l.length → k { x := .p (.str (cut l q hh)) } →
    (Instr.sliceBounds false l.length l.length (lo.map a.eval) (hi.map a.eval) none).run C.P w = .ok (q, hh, l.length) w → o.wp C.P a w K Q := by
   intro q hh q1 q2 hu2 hb
   refine wp_read h hd hK (v := .string ((ByteArray.mk l.toArray).extract q hh)) ?_ hu2 ?_ (by intro κ hκ; cases hκ)
   ·simp [execOp, ho, h1, Instr.sliceAt, Instr.slice, hu, hsize, hb]
   ·rw [R, RP]
    rw [ByteArray.extract_mk]
    rfl
  rcases bnd_spec h hv1 with ⟨rfl, hv2⟩ | ⟨y1, j1, m1, rfl, e1, p1, hv2⟩ <;> rcases bnd_spec h hv2 with ⟨rfl, hv3⟩ | ⟨y2, j2, m2, rfl, e2, p2, hv3⟩ <;> obtain ⟨c1, c2, hvc⟩ := hv3
  ·exact fin 0 l.length (by omega) (by omega) hvc (by simp [Instr.sliceBounds])
  ·exact fin 0 m2.toNat (by omega) (by omega) hvc (by simp [Instr.sliceBounds, e2, run_sliceBound (P := C.P) (w := w) (j := j2) (code := .sliceAlen) p2 (show m2.toNat ≤ l.length by omega)])
  ·exact fin m1.toNat l.length (by omega) (by omega) hvc (by simp [Instr.sliceBounds, e1, run_sliceBound (P := C.P) (w := w) (j := j1) (code := .sliceB) p1 (show m1.toNat ≤ l.length by omega)])
  ·exact fin m1.toNat m2.toNat (by omega) (by omega) hvc (by simp [Instr.sliceBounds, e1, e2, run_sliceBound (P := C.P) (w := w) (j := j2) (code := .sliceAlen) p2 (show m2.toNat ≤ l.length by omega), run_sliceBound (P := C.P) (w := w) (j := j1) (code := .sliceB) p1 (show m1.toNat ≤ m2.toNat by omega)])
 ·rename_i ti cs eT e
  obtain ⟨hk, hal, hmx, hnn, ⟨te, eE, ha, hz⟩, hvc⟩ := hvc
  simp only [Bool.and_eq_true, Option.isNone_iff_eq_none] at hnn
  obtain ⟨⟨rfl, rfl⟩, rfl⟩ := hnn
  have hu := run_underlying (P := C.P) ((hC.ty _ _ eT).array hk) w
  have hsz := (hC.ty _ _ eE).size w
  have hr := ev_R h x
  rw [e, R] at hr
  obtain ⟨ad, c, h1, h2, h3, h4⟩ := hr
  rw [RP] at h3
  obtain ⟨vs, rfl, h5, h6⟩ := h3
  refine wp_read h hd hK (v := .slice (some ad) cs.length cs.length) ?_ hvc ?_ (by intro κ hκ; cases hκ)
  ·have hadd : (if ti.alen = 0 then ad else ad.add (0 * te.sz)) = ad := by simp [Addr.add]
   simp [execOp, ho, h1, Instr.sliceAt, Instr.sureAddr, Instr.sliceBounds, hu, hsz, ← hal, Addr.add]
  ·rw [R, RP]
   refine ⟨some ad, cs.length, 1, rfl, Nat.le_refl _, ?_, RPE_of fun i y hy => ?_⟩
   ·simp only [maxLen]; omega
   ·obtain ⟨v, hv, hy2⟩ := RPL_get h6 hy
    have h1v := one_cells (h5 v (List.mem_of_getElem? hv))
    refine ⟨ad, v, rfl, h2, hy2, by rw [h1v]; rfl, fun j u hj => ?_⟩
    rw [h1v] at hj
    cases j with
    | succ j => simp at hj
    | zero =>
     simp at hj
     subst hj
     have := h4 i v (by simpa [Value.cells] using hv)
     simpa using this
 ·exact hvc.elim
end
end Go.Vc
namespace Go.Vc
open Go Go.RowKit
section
variable {C : Cx} {n : Nat} {F : Fm} {ok0 : Nat → Prop} {w0 : World} {ok : Nat → Prop} {β : Nat → Value} {s : S} {a : Act} {w : World} {own : Nat → Bool} {o : Oper} {k : U → Prop} {K : Act → World → Prop} {Q : Exit → Act → World → Prop}
theorem flat0_R {ok ok' : Nat → Prop} {w w' : World} {x : PV} {v : Value} (hx : x.flat0 = true) (h : RP ok w x v) : RP ok' w' x v := by
 cases x with
 | int k n => exact h
 | bool b => exact h
 | str l => exact h
 | nilS => exact h
 | err => exact h
 | exact u => exact h
 | agg cs => cases hx
 | lst L =>
  cases L with
  | cons _ _ => cases hx
  | nil =>
   obtain ⟨A, cap, sz, h1, h2, h3, _⟩ := h
   exact ⟨A, cap, sz, h1, h2, h3, trivial⟩
theorem flatL_R {ok ok' : Nat → Prop} {w w' : World} : ∀ {xs : List PV} {vs : List Value}, xs.all PV.flat0 = true → RPL ok w xs vs → RPL ok' w' xs vs
 | [], [], _, h => trivial
 | [], _ :: _, _, h => h.elim
 | _ :: _, [], _, h => h.elim
 | x :: xs, v :: vs, hx, h => by
  rw [List.all_cons, Bool.and_eq_true] at hx
  exact ⟨flat0_R hx.1 h.1, flatL_R hx.2 h.2⟩
theorem flat_R {ok ok' : Nat → Prop} {w w' : World} {x : PV} {v : Value} (hx : x.flat = true) (h : RP ok w x v) : RP ok' w' x v := by
 cases x with
 | agg cs =>
  obtain ⟨vs, h1, h2, h3⟩ := h
  exact ⟨vs, h1, h2, flatL_R hx h3⟩
 | int k n => exact flat0_R hx h
 | bool b => exact flat0_R hx h
 | str l => exact flat0_R hx h
 | nilS => exact flat0_R hx h
 | err => exact flat0_R hx h
 | exact u => exact flat0_R hx h
 | lst L => exact flat0_R hx h
theorem flats_R {ok ok' : Nat → Prop} {w w' : World} : ∀ {xs : List PV} {vs : List Value}, xs.all PV.flat = true → RPL ok w xs vs → RPL ok' w' xs vs
 | [], [], _, h => trivial
 | [], _ :: _, _, h => h.elim
 | _ :: _, [], _, h => h.elim
 | x :: xs, v :: vs, hx, h => by
  rw [List.all_cons, Bool.and_eq_true] at hx
  exact ⟨flat_R hx.1 h.1, flats_R hx.2 h.2⟩
theorem RL_LEL : ∀ {xs ys : List SV} {vs : List Value}, LEL xs ys → RL ok β w xs vs → RL ok β w ys vs
 | [], [], vs, _, h => h
 | [], _ :: _, _, h, _ => h.elim
 | _ :: _, [], _, h, _ => h.elim
 | x :: xs, y :: ys, [], _, h => h.elim
 | x :: xs, y :: ys, v :: vs, h, h' => ⟨h.1 _ _ _ _ h'.1, RL_LEL h.2 h'.2⟩
theorem LEL.refl : ∀ xs : List SV, LEL xs xs
 | [] => trivial
 | x :: xs => ⟨LE.refl x, LEL.refl xs⟩
theorem asFn_R {x : SV} {v : Value} (h : R ok β w x v) : R ok β w (asFn x) v := by
 unfold asFn
 split
 ·split
  ·rename_i f a b
   cases ea : (Nat.beq a.size 0 && Nat.beq b.size 0) with
   | false => exact h
   | true =>
    simp only [Bool.and_eq_true, Nat.beq_eq] at ea
    obtain rfl := Array.eq_empty_of_size_eq_zero ea.1
    obtain rfl := Array.eq_empty_of_size_eq_zero ea.2
    rw [R, RP] at h
    show R ok β w (.fn f []) v
    rw [R]
    exact ⟨[], h.1, trivial⟩
  ·exact h
 ·exact h
theorem view_R {ok' : Nat → Prop} {x : SV} {v : Value} (h : StO C n F ok0 w0 ok β s a w) (hr : R ok β w x v) (hok : ∀ b, ok b → ok' b) (hb : ∀ κ b, x = .slc κ → (β κ).ownBlock = some b → ok' b) : R ok' β w (view s.η x) v := by
 have hr' := R_stay hok (Stay.refl _ _) hr
 unfold view
 split
 ·rename_i κ
  split
  ·rename_i t sz L e
   have hob := h.η κ
   rw [e] at hob
   obtain ⟨_, ⟨xs, h1, h2⟩, _⟩ := hob
   rw [R] at hr
   obtain ⟨rfl, _⟩ := hr
   rw [R]
   exact row_lst h1 h2 hok fun b hb' => hb κ b rfl hb'
  ·exact hr'
 ·exact hr'
theorem LE_nil : LE (.p .nilS) (.p (.lst [])) := fun ok β w v hr => by
 rw [R, RP] at hr
 rw [R, RP, hr]
 exact ⟨none, 0, 0, rfl, Nat.le_refl _, by simp [maxLen], trivial⟩
theorem op_call (hC : CxOk C) {c : Call} {f : Operand} (ho : o.op = .call c) (hb : c.callee = .value f) (h : StO C n F ok0 w0 ok β s a w) (hd : ∀ d, o.dst = some d → d < n) (hvc : VC C own o s.ev s.η k)
  (hK : ∀ u a' w', k u → St C n F ok0 w0 (s.app o.dst u) a' w' → K a' w') : o.wp C.P a w K Q := by
 obtain ⟨callee, args, argTypes⟩ := c
 subst hb
 simp only [VC, ho, SV.forceL_eq] at hvc
 split at hvc
 ·exact hvc.elim
 ·rename_i d ed
  split at hvc
  ·rename_i f' caps ef
   obtain ⟨r, ⟨ηc, args', hle, hpc, hηc, hlive, hkeys, hscal⟩, hvc⟩ := hvc
   have hηc : ∀ κ, ηc κ = .no ∨ ηc κ = (s.η κ).ro := fun κ => (hηc κ).imp id And.right
   have hno : s.η d = .no := by
    split at hvc
    ·assumption
    ·exact hvc.elim
   rw [hno] at hvc
   simp only at hvc
   have hrf := asFn_R (ev_R h f)
   rw [ef, R] at hrf
   obtain ⟨vcaps, e1, hcaps⟩ := hrf
   have hargs : RL ok β w (args.toList.map s.ev ++ caps) (args.toList.map a.eval ++ vcaps) := by
    refine RL_append ?_ hcaps
    induction args.toList with
    | nil => trivial
    | cons x l ih => exact ⟨ev_R h x, ih⟩
   obtain ⟨okc, hokc⟩ : ∃ okc : Nat → Prop, okc = fun b => ok b ∨ ∃ κ, SV.slc κ ∈ args.toList.map s.ev ++ caps ∧ (s.η κ).mine = true ∧ (β κ).ownBlock = some b := ⟨_, rfl⟩
   have hsub : ∀ b, ok b → okc b := fun b hb => by rw [hokc]; exact .inl hb
   have hview : ∀ {xs : List SV} {vs : List Value}, (∀ x ∈ xs, x ∈ args.toList.map s.ev ++ caps) → RL ok β w xs vs → RL okc β w (xs.map (view s.η)) vs := by
    intro xs
    induction xs with
    | nil => intro vs _ hr; cases vs with | nil => trivial | cons _ _ => exact hr.elim
    | cons x xs ih =>
     intro vs hm hr
     cases vs with
     | nil => exact hr.elim
     | cons v vs =>
      refine ⟨?_, ih (fun y hy => hm y (List.mem_cons_of_mem _ hy)) hr.2⟩
      by_cases hx : ∃ κ, x = .slc κ ∧ (s.η κ).mine = true
      ·obtain ⟨κ, rfl, hmine⟩ := hx
       refine view_R h hr.1 hsub fun κ' b hκ hb => ?_
       cases hκ
       rw [hokc]
       exact .inr ⟨κ, hm _ (List.mem_cons_self ..), hmine, hb⟩
      ·unfold view
       split
       ·rename_i κ
        split
        ·rename_i t sz L e
         exact absurd ⟨κ, rfl, by rw [e]; rfl⟩ hx
        ·exact R_stay hsub (Stay.refl _ _) hr.1
       ·exact R_stay hsub (Stay.refl _ _) hr.1
   have hlt : ∀ b, okc b → b < w.heap.size := by
    intro b hb
    rw [hokc] at hb
    rcases hb with hb | ⟨κ, _, hm, hb⟩
    ·exact h.lt b hb
    ·exact OB_lt (h.η κ) (mine_live hm) (ownBlock_blockOf hb)
   have hgx : GX C okc w := GX_stay hC h.gx (Stay.refl _ _) h.lt hsub
   have hobs : ∀ κ, OB C okc β w (fun b => w.heap.size ≤ b) κ (ηc κ) := by
    intro κ
    rcases hηc κ with e | e
    ·rw [e]; trivial
    ·rw [e]
     have hob := h.η κ
     cases e2 : s.η κ with
     | no => trivial
     | row t sz L => trivial
     | mp t sk L => trivial
     | it l pos => trivial
     | ms t0 sk0 L0 B0 c0 m0 => trivial
     | mi κ0 m0 s0 q0 l0 => trivial
     | fm t ks xs => trivial
     | rp t xs => trivial
     | var own' t x =>
      rw [e2] at hob
      obtain ⟨b, v, q1, q2, q3, q4, q5, q6⟩ := hob
      refine ⟨b, v, q1, q2, R_stay hsub (Stay.refl _ _) q3, ?_, by simp, q6⟩
      rw [hokc]
      rintro (hb | ⟨κ', _, hm, hb⟩)
      ·exact q4 hb
      ·have := (mine_block h hm (ownBlock_blockOf hb)).2.2 κ (by rw [e2]; rfl) (by rw [q1]; rfl)
       subst this
       rw [q1] at hb
       simp [Value.ownBlock] at hb
   have hvs : RL okc β w args' (args.toList.map a.eval ++ vcaps) := RL_LEL hle (hview (fun x hx => hx) hargs)
   have hcall := hpc.run okc β w _ hgx hlt hvs hobs hlive hkeys (fun κ => by
    rcases hηc κ with e | e
    ·rw [e]; rfl
    ·rw [e]; cases s.η κ <;> rfl)
   obtain ⟨fn, hf1, hf2, hf3⟩ := hpc.fn
   have hexec : (execOp a.eval o).run C.P w = .ok (.enter f' (args.toList.map a.eval ++ vcaps).toArray) w := by
    have harr : args.map a.eval ++ vcaps.toArray = (args.toList.map a.eval ++ vcaps).toArray := by
     apply Array.ext'
     simp
    simp only [execOp, ho, resolve, Sem.run_bind, e1, Deferred.ofValue, Sem.run_pure, Result.andThen_ok, invoke, callFunc, run_program, hf1, hf2, hf3]
    simp [harr]
   unfold Oper.wp
   rw [hexec, Oper.upon_enter]
   refine hcall.mono ?_
   rintro e w' ⟨v, rfl, hres, hbel⟩
   show K (a.put o.dst v) w'
   have hbel0 := below_w h.below hbel
   have hkeep : ∀ b, b < w.heap.size → (ok b ∨ ∃ κ, (s.η κ).live = true ∧ blockOf (β κ) = some b) → w'.heap[b]? = w.heap[b]? := fun b hlt _ => hbel.block b hlt
   have hnewb : ∀ b, w.heap.size ≤ b → ∀ κ, (s.η κ).live = true → blockOf (β κ) ≠ some b := fun b hb κ hl hbk => by have := OB_lt (h.η κ) hl hbk; omega
   refine hK _ _ _ hvc ?_
   rw [ed]
   have hsame := h.world hC (ok' := ok) hbel0 hbel.size hkeep (fun _ h => h) (fun _ h => .inl h)
   by_cases hsc : r.scalar = true
   ·cases r with
    | pv x =>
     have hx : R ok β w' (.p x) v := flat_R hsc hres
     exact ⟨ok, β, hsame.put (hd d ed) hx (by intro κ hκ; cases hκ)⟩
    | fresh t sz L => simp [Res.scalar] at hsc
    | tup xs =>
     obtain ⟨vs, rfl, hr⟩ := hres
     refine ⟨ok, β, hsame.put (hd d ed) (x := .tupS (xs.map .p)) ?_ ?_⟩
     ·rw [R]; exact ⟨vs, rfl, RL_map_p (flats_R hsc hr)⟩
     ·intro κ hκ
      simp [SV.keys, keysL_map_p] at hκ
   ·have hns : ∀ x ∈ args.toList.map s.ev ++ caps, noSlc x = true := hscal.resolve_left hsc
    have hokeq : okc = ok := by
     rw [hokc]
     funext b
     simp only [eq_iff_iff]
     constructor
     ·rintro (hb | ⟨κ, hm, _⟩)
      ·exact hb
      ·have := hns _ hm
       simp [noSlc] at this
     ·exact .inl
    rw [hokeq] at hres
    have hall := h.world hC (ok' := fun b => ok b ∨ w.heap.size ≤ b ∧ b < w'.heap.size) hbel0 hbel.size hkeep (fun _ h => .inl h) (fun b hb => by
     rcases hb with hb | hb
     ·exact .inl hb
     ·exact .inr ⟨hb.2, .inr (Nat.le_trans h.below.size hb.1), hnewb b hb.1⟩)
    cases r with
    | pv x => exact ⟨_, _, hall.put (hd d ed) hres (by intro κ hκ; cases hκ)⟩
    | tup xs =>
     obtain ⟨vs, rfl, hr⟩ := hres
     refine ⟨_, _, hall.put (hd d ed) (x := .tupS (xs.map .p)) ?_ ?_⟩
     ·rw [R]; exact ⟨vs, rfl, RL_map_p hr⟩
     ·intro κ hκ
      simp [SV.keys, keysL_map_p] at hκ
    | fresh t sz L =>
     obtain ⟨hpos, xs, hrow, hrr⟩ := hres
     cases ho' : own d with
     | false =>
      refine ⟨_, _, hall.put (hd d ed) (x := .p (.lst L)) (row_lst hrow hrr (fun b hb => hb.1) fun b hb => .inr ⟨(hrow.lt b hb).1, (hrow.lt b hb).2⟩) (by intro κ hκ; cases hκ)⟩
     | true =>
      have hw2 := h.world hC (ok' := fun b => (ok b ∨ w.heap.size ≤ b ∧ b < w'.heap.size) ∧ v.ownBlock ≠ some b) hbel0 hbel.size hkeep (fun b hb => ⟨.inl hb, fun e => by have := (hrow.lt b e).1; have := h.lt b hb; omega⟩) (fun b hb => by
       rcases hb.1 with hb | hb
       ·exact .inl hb
       ·exact .inr ⟨hb.2, .inr (Nat.le_trans h.below.size hb.1), hnewb b hb.1⟩)
      have hrow2 : w'.ownsRow 0 t sz v L.length xs := by
       obtain ⟨q1, q2⟩ := hrow
       refine ⟨q1, ?_⟩
       rcases q2 with q2 | ⟨g, cap, cur, q3, q4, q5⟩
       ·exact .inl q2
       ·exact .inr ⟨g, cap, cur, q3, Nat.zero_le _, q5⟩
      exact ⟨_, _, hw2.addrow (hd d ed) (Nat.lt_of_lt_of_le (hd d ed) h.n2) hno hpos hrow2 hrr fun b hb => ⟨fun hc => hc.2 hb, .inr (Nat.le_trans h.below.size (hrow.lt b hb).1), hnewb b (hrow.lt b hb).1⟩⟩
  ·exact hvc.elim
end
end Go.Vc
namespace Go.Vc
open Go Go.RowKit
mutual
theorem R_ren {ok : Nat → Prop} {β : Nat → Value} {w : World} {g : Nat → Nat} : ∀ (x : SV) (v : Value), R ok β w (x.ren g) v ↔ R ok (fun k => β (g k)) w x v
 | .no, v => Iff.rfl
 | .p _, v => Iff.rfl
 | .elt _, v => Iff.rfl
 | .eltF _ _, v => Iff.rfl
 | .rowE _ _ _, v => Iff.rfl
 | .tl _ _ _, v => Iff.rfl
 | .ptr _ _, v => Iff.rfl
 | .slc _, v => by simp only [SV.ren, R]
 | .glob _, v => Iff.rfl
 | .nilQ _, v => Iff.rfl
 | .fn f caps, v => by
  simp only [SV.ren, R]
  exact ⟨fun ⟨vs, h1, h2⟩ => ⟨vs, h1, (RL_ren caps vs).1 h2⟩, fun ⟨vs, h1, h2⟩ => ⟨vs, h1, (RL_ren caps vs).2 h2⟩⟩
 | .mix cs, v => by
  simp only [SV.ren, R]
  exact ⟨fun ⟨vs, h1, h2, h3⟩ => ⟨vs, h1, h2, (RL_ren cs vs).1 h3⟩, fun ⟨vs, h1, h2, h3⟩ => ⟨vs, h1, h2, (RL_ren cs vs).2 h3⟩⟩
 | .tupS cs, v => by
  simp only [SV.ren, R]
  exact ⟨fun ⟨vs, h1, h2⟩ => ⟨vs, h1, (RL_ren cs vs).1 h2⟩, fun ⟨vs, h1, h2⟩ => ⟨vs, h1, (RL_ren cs vs).2 h2⟩⟩
theorem RL_ren {ok : Nat → Prop} {β : Nat → Value} {w : World} {g : Nat → Nat} : ∀ (xs : List SV) (vs : List Value), RL ok β w (SV.renL g xs) vs ↔ RL ok (fun k => β (g k)) w xs vs
 | [], [] => Iff.rfl
 | [], _ :: _ => Iff.rfl
 | _ :: _, [] => Iff.rfl
 | x :: xs, v :: vs => by
  simp only [SV.renL, RL]
  rw [R_ren x v, RL_ren xs vs]
end
mutual
theorem ren_keys {g : Nat → Nat} : ∀ (x : SV), (x.ren g).keys = x.keys.map g
 | .no => rfl
 | .p _ => rfl
 | .elt _ => rfl
 | .eltF _ _ => rfl
 | .rowE _ _ _ => rfl
 | .tl _ _ _ => rfl
 | .ptr _ _ => rfl
 | .slc _ => rfl
 | .glob _ => rfl
 | .nilQ _ => rfl
 | .fn f caps => by simp only [SV.ren, SV.keys]; exact renL_keys caps
 | .mix cs => by simp only [SV.ren, SV.keys]; exact renL_keys cs
 | .tupS cs => by simp only [SV.ren, SV.keys]; exact renL_keys cs
theorem renL_keys {g : Nat → Nat} : ∀ (xs : List SV), SV.keysL (SV.renL g xs) = (SV.keysL xs).map g
 | [] => rfl
 | x :: xs => by simp only [SV.renL, SV.keysL, List.map_append]; rw [ren_keys x, renL_keys xs]
end
theorem renL_length {g : Nat → Nat} : ∀ xs : List SV, (SV.renL g xs).length = xs.length
 | [] => rfl
 | x :: xs => by rw [SV.renL, List.length_cons, List.length_cons, renL_length xs]
theorem AO.ren_live (o : AO) (g : Nat → Nat) : (o.ren g).live = o.live := by cases o <;> rfl
theorem AO.ren_mine (o : AO) (g : Nat → Nat) : (o.ren g).mine = o.mine := by cases o <;> rfl
theorem AO.ren_keys (o : AO) (g : Nat → Nat) : (o.ren g).keys = o.keys.map g := by
 cases o with
 | var own t x => exact Go.Vc.ren_keys x
 | fm t ks xs => exact Go.Vc.renL_keys xs
 | rp t xs => exact Go.Vc.renL_keys xs
 | _ => rfl
theorem OB_ren {C : Cx} {ok : Nat → Prop} {β : Nat → Value} {w : World} {M : Nat → Prop} {g : Nat → Nat} {κ : Nat} (o : AO) : OB C ok β w M (g κ) (o.ren g) ↔ OB C ok (fun k => β (g k)) w M κ o := by
 cases o with
 | no => exact Iff.rfl
 | row t sz L => exact Iff.rfl
 | mp t sk L => exact Iff.rfl
 | it l pos => exact Iff.rfl
 | ms t0 sk0 L0 B0 c0 m0 => exact Iff.rfl
 | mi κ0 m0 s0 q0 l0 => exact Iff.rfl
 | rp t xs =>
  simp only [AO.ren, OB, renL_length]
  constructor
  ·rintro ⟨⟨vs, h1, h2, h3, h4⟩, h5⟩; exact ⟨⟨vs, h1, h2, h3, (RL_ren xs _).1 h4⟩, h5⟩
  ·rintro ⟨⟨vs, h1, h2, h3, h4⟩, h5⟩; exact ⟨⟨vs, h1, h2, h3, (RL_ren xs _).2 h4⟩, h5⟩
 | fm t ks xs =>
  simp only [AO.ren, OB]
  constructor
  ·rintro ⟨r, es, clock, h1, h2, h3, h4, h5, h6, h7⟩; exact ⟨r, es, clock, h1, h2, h3, h4, h5, (RL_ren xs _).1 h6, h7⟩
  ·rintro ⟨r, es, clock, h1, h2, h3, h4, h5, h6, h7⟩; exact ⟨r, es, clock, h1, h2, h3, h4, h5, (RL_ren xs _).2 h6, h7⟩
 | var own t x =>
  simp only [AO.ren, OB]
  constructor
  ·rintro ⟨b, v, h1, h2, h3, h4⟩; exact ⟨b, v, h1, h2, (R_ren x v).1 h3, h4⟩
  ·rintro ⟨b, v, h1, h2, h3, h4⟩; exact ⟨b, v, h1, h2, (R_ren x v).2 h3, h4⟩
theorem OB_weaken {C : Cx} {ok : Nat → Prop} {β : Nat → Value} {w : World} {M M' : Nat → Prop} {κ : Nat} {o : AO} (hM : ∀ b, M b → M' b) (h : OB C ok β w M κ o) : OB C ok β w M' κ o := by
 cases o with
 | no => trivial
 | row t sz L =>
  obtain ⟨h1, h2, h3⟩ := h
  exact ⟨h1, h2, fun k hk => ⟨(h3 k hk).1, hM k (h3 k hk).2⟩⟩
 | ms t sk L B c r =>
  obtain ⟨es, h1, h2, h3, h4, h5⟩ := h
  exact ⟨es, h1, h2, h3, hM r h4, h5⟩
 | mi κ0 m since seen last =>
  obtain ⟨r, h1, h2, h3, h4⟩ := h
  exact ⟨r, h1, h2, h3, hM r h4⟩
 | it l pos =>
  obtain ⟨r, h1, h2, h3, h4⟩ := h
  exact ⟨r, h1, h2, h3, hM r h4⟩
 | mp t sk L =>
  obtain ⟨r, es, clock, h1, h2, h3, h4, h5⟩ := h
  exact ⟨r, es, clock, h1, h2, h3, hM r h4, h5⟩
 | fm t ks xs =>
  obtain ⟨r, es, clock, h1, h2, h3, h4, h5⟩ := h
  exact ⟨r, es, clock, h1, h2, h3, hM r h4, h5⟩
 | rp t xs =>
  obtain ⟨h1, h3⟩ := h
  exact ⟨h1, fun k hk => ⟨(h3 k hk).1, hM k (h3 k hk).2⟩⟩
 | var own t x =>
  obtain ⟨b, v, h1, h2, h3, h4, h5, h6⟩ := h
  exact ⟨b, v, h1, h2, h3, h4, fun ho => hM b (h5 ho), h6⟩
theorem OB_less {C : Cx} {ok : Nat → Prop} {β : Nat → Value} {w : World} {M : Nat → Prop} {κ : Nat} {a b : AO} (h : OLM a b) (ho : OB C ok β w M κ a) : OB C ok β w M κ b := by
 rcases h with rfl | rfl | ⟨own, t, x, y, rfl, rfl, hle⟩ | ⟨t, x, y, rfl, rfl, hle⟩
 ·trivial
 ·exact ho
 ·obtain ⟨b, v, h1, h2, h3, h4⟩ := ho
  exact ⟨b, v, h1, h2, hle _ _ _ _ h3, h4⟩
 ·obtain ⟨b, v, h1, h2, h3, h4, h5, h6⟩ := ho
  exact ⟨b, v, h1, h2, hle _ _ _ _ h3, h4, (fun h => by cases h), h6⟩
theorem OLM.live {a b : AO} (h : OLM a b) (hb : b.live = true) : a.live = true := by
 rcases h with rfl | rfl | ⟨own, t, x, y, rfl, rfl, hle⟩ | ⟨t, x, y, rfl, rfl, hle⟩
 ·cases hb
 ·exact hb
 ·rfl
 ·rfl
theorem OLM.mine {a b : AO} (h : OLM a b) (hb : b.mine = true) : a.mine = true := by
 rcases h with rfl | rfl | ⟨own, t, x, y, rfl, rfl, hle⟩ | ⟨t, x, y, rfl, rfl, hle⟩
 ·cases hb
 ·exact hb
 ·exact hb
 ·rfl
theorem lookO_in {l : List (Nat × AO)} {κ : Nat} (h : (lookO l κ).live = true) : (κ, lookO l κ) ∈ l := by
 induction l with
 | nil => cases h
 | cons y r ih =>
  obtain ⟨k, o⟩ := y
  simp only [lookO] at h ⊢
  rw [beq_ite] at h ⊢
  split
  ·rename_i e; rw [e]; exact List.mem_cons_self ..
  ·rename_i e; rw [if_neg e] at h; exact List.mem_cons_of_mem _ (ih h)
theorem lookO_liv {l : List (Nat × AO)} {κ : Nat} {o : AO} (h : (κ, o) ∈ l) (hl : ∀ y ∈ l, y.2.live = true) : (lookO l κ).live = true := by
 induction l with
 | nil => cases h
 | cons y r ih =>
  obtain ⟨k, o'⟩ := y
  simp only [lookO]
  rw [beq_ite]
  split
  ·exact hl _ (List.mem_cons_self ..)
  ·rename_i e
   rcases List.mem_cons.1 h with e' | h
   ·cases e'; exact absurd rfl e
   ·exact ih h fun y hy => hl y (List.mem_cons_of_mem _ hy)
theorem overO_hit {g : Nat → Nat} {e : Nat → AO} : ∀ {l : List (Nat × AO)} {κ : Nat}, (∀ y ∈ l, g y.1 = g κ → y.1 = κ) → (lookO l κ).live = true → overO g l e (g κ) = (lookO l κ).ren g
 | [], κ, _, h => by cases h
 | (k, o) :: r, κ, hi, h => by
  simp only [overO, lookO] at h ⊢
  rw [beq_ite, beq_ite] at *
  by_cases hk : κ = k
  ·subst hk
   rw [if_pos rfl, if_pos rfl]
  ·rw [if_neg hk] at h ⊢
   rw [if_neg fun e' => hk (hi (k, o) (List.mem_cons_self ..) e'.symm).symm]
   exact overO_hit (fun y hy => hi y (List.mem_cons_of_mem _ hy)) h
theorem overO_miss {g : Nat → Nat} {e : Nat → AO} : ∀ {l : List (Nat × AO)} {k : Nat}, (∀ y ∈ l, g y.1 ≠ k) → overO g l e k = e k
 | [], k, _ => rfl
 | (κ, o) :: r, k, h => by
  simp only [overO]
  rw [beq_ite, if_neg fun e' => h (κ, o) (List.mem_cons_self ..) e'.symm]
  exact overO_miss fun y hy => h y (List.mem_cons_of_mem _ hy)
section
variable {C : Cx} {n : Nat} {F : Fm} {ok0 : Nat → Prop} {w0 : World} {ok : Nat → Prop} {β : Nat → Value} {s : S} {a : Act} {w : World} {own : Nat → Bool} {o : Oper} {K : Act → World → Prop} {Q : Exit → Act → World → Prop}
theorem StO.killL : ∀ (l : List Nat) {s : S}, StO C n F ok0 w0 ok β s a w → StO C n F ok0 w0 ok β (s.killL l) a w
 | [], s, h => h
 | κ :: l, s, h => StO.killL l (h.kill κ)
theorem killL_live : ∀ (l : List Nat) {s : S} {κ : Nat}, ((s.killL l).η κ).live = true ↔ (s.η κ).live = true ∧ κ ∉ l
 | [], s, κ => by simp [S.killL]
 | q :: l, s, κ => by
  rw [S.killL, killL_live l, kill_live]
  simp only [List.mem_cons, not_or]
  exact ⟨fun ⟨⟨h1, h2⟩, h3⟩ => ⟨h1, h2, h3⟩, fun ⟨h1, h2, h3⟩ => ⟨⟨h1, h2⟩, h3⟩⟩
open Classical in
noncomputable def afterβ (g : Nat → Nat) (O : List (Nat × AO)) (β β' : Nat → Value) (k : Nat) : Value :=
 if h : ∃ κ, (lookO O κ).live = true ∧ g κ = k then β' (Classical.choose h) else β k
theorem mcall_sound (hC : CxOk C) (h : StO C n F ok0 w0 ok β s a w) {d : Nat} (hd : d < n) {f : FuncId} {args : List SV} {s' : S} (hm : MCallVC C s f args d s') {vs : List Value} (hargs : RL ok β w args vs) :
  FnOk C.P f ∧ Calls C.P f vs.toArray w fun e w' => ∃ v, e = .returned v ∧ St C n F ok0 w0 s' (a.put (some d) v) w' := by
 obtain ⟨I, args0, O, x, g, hP, hle, hI, hinj, hnew, hmov, rfl⟩ := hm.out
 refine ⟨hP.fn, ?_⟩
 have hst := hP.st
 simp only [okM, Bool.and_eq_true, List.all_eq_true] at hst
 obtain ⟨⟨⟨⟨t1, t2⟩, t3⟩, t4⟩, t5⟩ := hst
 have hOlive : ∀ y ∈ O, y.2.live = true := fun y hy => mine_live (t3 y hy).1
 have hOmine : ∀ κ, (lookO O κ).live = true → (lookO O κ).mine = true := fun κ hl => (t3 _ (lookO_in hl)).1
 have hIO : ∀ κ, (lookO I κ).mine = true → (lookO O κ).live = true ∨ g κ ∈ movers g I := fun κ hl => by
  have h5 := t5 _ (lookO_in (mine_live hl))
  simp only [hl, Bool.not_true, Bool.false_or, Bool.or_eq_true, Nat.blt_eq] at h5
  rcases h5 with h5 | h5
  ·exact .inl h5
  ·exact .inr (List.mem_map.2 ⟨(κ, lookO I κ), List.mem_filter.2 ⟨lookO_in (mine_live hl), by simpa [Nat.blt_eq] using h5⟩, rfl⟩)
 have hIro : ∀ κ, (lookO I κ).live = true → (lookO I κ).mine = false → 2000 ≤ κ := fun κ hl hmn => by
  have := (t2 _ (lookO_in hl)).2
  simp only [hmn, Bool.false_or] at this
  exact Nat.le_of_ble_eq_true this
 have hobs : ∀ κ, OB C ok (fun k => β (g k)) w (fun _ => True) κ (lookO I κ) := fun κ =>
  (OB_ren (lookO I κ)).1 (OB_weaken (fun _ _ => trivial) (OB_less (hI κ) (h.η (g κ))))
 have hlive : ∀ κ, (lookO I κ).live = true → (s.η (g κ)).live = true := fun κ hl => (hI κ).live (by rw [AO.ren_live]; exact hl)
 have hmine : ∀ κ, (lookO I κ).mine = true → (s.η (g κ)).mine = true := fun κ hl => (hI κ).mine (by rw [AO.ren_mine]; exact hl)
 have hcall := hP.run ok (fun k => β (g k)) w vs h.gx h.lt ((RL_ren _ _).1 (RL_LEL hle hargs)) hobs (fun κ κ' b h1 h2 h3 h4 => by
  have := (mine_block h (hmine κ h1) h3).2.2 (g κ') (hlive κ' h2) h4
  exact (hinj κ' κ (by rw [h2]; rfl) (by rw [mine_live h1]; rfl) this).symm)
 refine hcall.mono ?_
 rintro e w' ⟨v, β', ok', rfl, r⟩
 refine ⟨v, rfl, ?_⟩
 have hmb : ∀ b, mblk I (fun k => β (g k)) b → ¬ ok b ∧ may F w0 b ∧ ∃ κ, ((lookO O κ).live = true ∨ g κ ∈ movers g I) ∧ ∀ κ', (s.η κ').live = true → blockOf (β κ') = some b → κ' = g κ := by
  rintro b ⟨κ, h1, h2⟩
  have := mine_block h (hmine κ h1) h2
  exact ⟨this.1, this.2.1, κ, hIO κ h1, this.2.2⟩
 have hstay : Stay ok w w' := fun b hb hlt => r.keep.block b hlt fun hc => (hmb b hc).1 hb
 obtain ⟨β2, hβ2⟩ : ∃ β2, β2 = afterβ g O β β' := ⟨_, rfl⟩
 have b1 : ∀ κ, (lookO O κ).live = true → β2 (g κ) = β' κ := by
  intro κ hl
  have hx : ∃ κ', (lookO O κ').live = true ∧ g κ' = g κ := ⟨κ, hl, rfl⟩
  rw [hβ2, afterβ, dif_pos hx]
  have hc := Classical.choose_spec hx
  rw [hinj _ κ (by rw [hc.1, Bool.or_true]) (by rw [hl, Bool.or_true]) hc.2]
 have b2 : ∀ k, (∀ κ, (lookO O κ).live = true → g κ ≠ k) → β2 k = β k := by
  intro k hk
  rw [hβ2, afterβ, dif_neg]
  rintro ⟨κ, h1, h2⟩
  exact hk κ h1 h2
 have hs1 := h.killL (movers g I)
 obtain ⟨s1, es1⟩ : ∃ s1, s1 = s.killL (movers g I) := ⟨_, rfl⟩
 rw [← es1] at hs1
 have hl1 : ∀ k, (s1.η k).live = true ↔ (s.η k).live = true ∧ k ∉ movers g I := fun k => by rw [es1]; exact killL_live _
 have b3 : ∀ k, (s1.η k).live = true → β2 k = β k := by
  intro k hk
  obtain ⟨hk1, hk2⟩ := (hl1 k).1 hk
  by_cases hx : ∃ κ, (lookO O κ).live = true ∧ g κ = k
  ·obtain ⟨κ, h1, rfl⟩ := hx
   rw [b1 κ h1]
   cases hli : (lookO I κ).live with
   | false => rw [(hnew κ h1 hli).1] at hk1; cases hk1
   | true =>
    by_cases h2 : κ < 2000
    ·exfalso
     apply hk2
     exact List.mem_map.2 ⟨(κ, lookO I κ), List.mem_filter.2 ⟨lookO_in hli, by simpa [Nat.blt_eq] using h2⟩, rfl⟩
    ·exact r.pin κ (by omega) hli
  ·exact b2 k fun κ h1 h2 => hx ⟨κ, h1, h2⟩
 have b4 : ∀ κ, ((lookO O κ).live || ((lookO I κ).live && !(lookO I κ).mine)) = true → β2 (g κ) = β' κ := by
  intro κ hκ
  by_cases h1 : (lookO O κ).live = true
  ·exact b1 κ h1
  ·have h1' : (lookO O κ).live = false := by simpa using h1
   rw [h1'] at hκ
   simp only [Bool.false_or, Bool.and_eq_true, Bool.not_eq_true'] at hκ
   rw [r.pin κ (hIro κ hκ.1 hκ.2) hκ.1]
   refine b2 _ fun κ' h2 h3 => ?_
   have := hinj κ' κ (by rw [h2, Bool.or_true]) (by rw [hκ.1]; rfl) h3
   rw [this, h1'] at h2
   cases h2
 have hη : ∀ κ, (lookO O κ).live = true → overO g O s1.η (g κ) = (lookO O κ).ren g := fun κ hl => overO_hit (fun y hy e => hinj y.1 κ (by
  rw [lookO_liv (o := y.2) hy hOlive, Bool.or_true]) (by rw [hl, Bool.or_true]) e) hl
 have hη' : ∀ k, (∀ κ, (lookO O κ).live = true → g κ ≠ k) → overO g O s1.η k = s1.η k := fun k hk => overO_miss fun y hy => hk y.1 (lookO_liv (o := y.2) hy hOlive)
 have hcase : ∀ k, (∃ κ, (lookO O κ).live = true ∧ g κ = k) ∨ (∀ κ, (lookO O κ).live = true → g κ ≠ k) := fun k => by
  by_cases hx : ∃ κ, (lookO O κ).live = true ∧ g κ = k
  ·exact .inl hx
  ·exact .inr fun κ h1 h2 => hx ⟨κ, h1, h2⟩
 have hlive2 : ∀ k, (s1.η k).live = true → (overO g O s1.η k).live = true := fun k hk => by
  rcases hcase k with ⟨κ, h1, rfl⟩ | hk'
  ·rw [hη κ h1, AO.ren_live]; exact h1
  ·rw [hη' k hk']; exact hk
 have hkey : ∀ κ, ((lookO O κ).live || ((lookO I κ).live && !(lookO I κ).mine)) = true → (overO g O s1.η (g κ)).live = true := by
  intro κ hκ
  by_cases h1 : (lookO O κ).live = true
  ·rw [hη κ h1, AO.ren_live]; exact h1
  ·have h1' : (lookO O κ).live = false := by simpa using h1
   rw [h1'] at hκ
   simp only [Bool.false_or, Bool.and_eq_true, Bool.not_eq_true'] at hκ
   refine hlive2 _ ((hl1 _).2 ⟨hlive κ hκ.1, fun hc => ?_⟩)
   obtain ⟨y, hy, e⟩ := List.mem_map.1 hc
   obtain ⟨hy1, hy2⟩ := List.mem_filter.1 hy
   have hyl : (lookO I y.1).live = true := lookO_liv (o := y.2) hy1 fun z hz => (t2 z hz).1.1
   have := hinj y.1 κ (by rw [hyl]; rfl) (by rw [hκ.1]; rfl) e
   have h3 := hIro κ hκ.1 hκ.2
   have h4 : y.1 < 2000 := by simpa [Nat.blt_eq] using hy2
   omega
 have hs' : mAfter s g I O d x = ⟨fun t => cond (Nat.beq t d) (x.ren g) (s1.ρ t), overO g O s1.η⟩ := by rw [es1]; rfl
 rw [hs']
 have hblk : ∀ k b, (s1.η k).live = true → (∀ κ, (lookO O κ).live = true → g κ ≠ k) → blockOf (β k) = some b → ¬ mblk I (fun k => β (g k)) b := by
  intro k b hk hk' hb hc
  obtain ⟨_, _, κ, h1, h2⟩ := hmb b hc
  have e := h2 k ((hl1 k).1 hk).1 hb
  rcases h1 with h1 | h1
  ·exact hk' κ h1 e.symm
  ·exact ((hl1 k).1 hk).2 (e ▸ h1)
 have hM : ∀ b, (mblk I (fun k => β (g k)) b ∨ w.heap.size ≤ b) → may F w0 b := fun b hb => by
  rcases hb with hb | hb
  ·exact (hmb b hb).2.1
  ·exact .inr (Nat.le_trans h.below.size hb)
 have hobO : ∀ κ, (lookO O κ).live = true → OB C ok' β2 w' (fun b => mblk I (fun k => β (g k)) b ∨ w.heap.size ≤ b) (g κ) (overO g O s1.η (g κ)) := by
  intro κ hl
  rw [hη κ hl, OB_ren]
  refine OB_move (r.obs κ) (fun _ => b1 κ hl) (fun κ' hκ' => b4 κ' ?_) (fun _ h => h) (Stay.refl _ _) (fun _ _ _ _ => rfl) (fun _ _ _ _ h => h)
  exact (t3 _ (lookO_in hl)).2 κ' hκ'
 refine ⟨ok', β2,
  {lt := r.ok2
   new := fun b hb => by
    rcases r.ok3 b hb with h1 | h1
    ·exact h.new b h1
    ·exact .inr (hM b h1)
   old := fun b hb => r.ok1 b (h.old b hb)
   gx := GX_stay hC h.gx hstay h.lt r.ok1
   defers := h.defers
   size := by simp [Act.put, h.size]
   ρ := fun t => ?_
   η := fun k => ?_
   ro := fun k t y b hk hb => ?_
   dis := fun k k' b h1 h2 h3 h4 => ?_
   wf := ⟨fun t k hk => ?_, fun t k hk => ?_⟩
   below := h.below.step r.keep.os r.keep.tape r.keep.output r.keep.size fun b hb hmy => r.keep.block b hb fun hc => hmy (hmb b hc).2.1
   n2 := h.n2
   pin := fun k hk => ?_ }⟩
 ·show R ok' β2 w' (cond (Nat.beq t d) (x.ren g) (s1.ρ t)) _
  rw [beq_ite, eval_put (by rw [h.size]; exact hd)]
  by_cases e : t = d
  ·rw [if_pos e, if_pos e, R_ren]
   exact R_keys (fun κ hκ => b4 κ (t4 κ hκ)) r.val
  ·rw [if_neg e, if_neg e]
   exact R_keys (fun k hk => b3 k (hs1.wf.ρ t k hk)) (R_stay r.ok1 hstay (hs1.ρ t))
 ·show OB C ok' β2 w' _ k (overO g O s1.η k)
  rcases hcase k with ⟨κ, h1, rfl⟩ | hk'
  ·exact OB_weaken hM (hobO κ h1)
  ·rw [hη' k hk']
   refine OB_move (hs1.η k) (fun hl => b3 k hl) (fun k' hk2 => b3 k' (hs1.wf.η k k' hk2)) r.ok1 hstay (fun b hl hb hlt => r.keep.block b hlt (hblk k b hl hk' hb)) (fun b hl hb hlt hn hc => ?_)
   rcases r.ok3 b hc with h1 | h1 | h1
   ·exact hn h1
   ·exact hblk k b hl hk' hb h1
   ·omega
 ·have hk : overO g O s1.η k = _ := hk
  rcases hcase k with ⟨κ, h1, rfl⟩ | hk'
  ·rw [hη κ h1] at hk
   have := hOmine κ h1
   rw [← AO.ren_mine _ g, hk] at this
   cases this
  ·rw [hη' k hk'] at hk
   rw [b3 k (by rw [hk]; rfl)] at hb
   exact hs1.ro k t y b hk hb
 ·have h1 : (overO g O s1.η k).mine = true := h1
  have h2 : (overO g O s1.η k').mine = true := h2
  have hx : ∀ κ k', (lookO O κ).live = true → (∀ κ, (lookO O κ).live = true → g κ ≠ k') → (overO g O s1.η k').mine = true → blockOf (β2 (g κ)) = some b → blockOf (β2 k') = some b → False := by
   intro κ k' hl hk' hm' hb hb'
   rw [hη' k' hk'] at hm'
   rw [b3 k' (mine_live hm')] at hb'
   have hob := hobO κ hl
   have hmn : (overO g O s1.η (g κ)).mine = true := by rw [hη κ hl, AO.ren_mine]; exact hOmine κ hl
   have hbm : mblk I (fun k => β (g k)) b ∨ w.heap.size ≤ b := by
    cases e : overO g O s1.η (g κ) with
    | no => rw [e] at hmn; cases hmn
    | var own t y =>
     rw [e] at hob hmn
     obtain ⟨b', v', q1, q2, q3, q4, q5, _⟩ := hob
     rw [q1] at hb
     have : b' = b := by simpa [blockOf] using hb
     subst this
     exact q5 hmn
    | ms t sk L B c r' =>
     rw [e] at hob
     obtain ⟨es, q1, _, _, q4, _⟩ := hob
     rw [q1] at hb
     have : r' = b := by simpa [blockOf] using hb
     subst this
     exact q4
    | mi κ0 m since seen last =>
     rw [e] at hob
     obtain ⟨r', q1, _, _, q4⟩ := hob
     rw [q1] at hb
     have : r' = b := by simpa [blockOf] using hb
     subst this
     exact q4
    | it l pos =>
     rw [e] at hob
     obtain ⟨r', q1, _, _, q4⟩ := hob
     rw [q1] at hb
     have : r' = b := by simpa [blockOf] using hb
     subst this
     exact q4
    | mp t sk L =>
     rw [e] at hob
     obtain ⟨r', es, clock, q1, _, _, q4, _⟩ := hob
     rw [q1] at hb
     have : r' = b := by simpa [blockOf] using hb
     subst this
     exact q4
    | fm t ks xs =>
     rw [e] at hob
     obtain ⟨r', es, clock, q1, _, _, q4, _⟩ := hob
     rw [q1] at hb
     have : r' = b := by simpa [blockOf] using hb
     subst this
     exact q4
    | rp t xs =>
     rw [e] at hob
     obtain ⟨⟨vs, q1, _⟩, q2⟩ := hob
     have hown : (β2 (g κ)).ownBlock = some b := by
      rcases q1.2 with ⟨q3, _⟩ | ⟨g', cap, cur, q3, _⟩
      ·rw [q3] at hb; simp [blockOf] at hb
      ·rw [q3] at hb ⊢; simpa [blockOf, Value.ownBlock] using hb
     exact (q2 b hown).2
    | row t sz L =>
     rw [e] at hob
     obtain ⟨_, ⟨xs, q1, _⟩, q2⟩ := hob
     have hown : (β2 (g κ)).ownBlock = some b := by
      rcases q1.2 with ⟨q3, _⟩ | ⟨g', cap, cur, q3, _⟩
      ·rw [q3] at hb; simp [blockOf] at hb
      ·rw [q3] at hb ⊢; simpa [blockOf, Value.ownBlock] using hb
     exact (q2 b hown).2
   rcases hbm with hbm | hbm
   ·exact hblk k' b (mine_live hm') hk' hb' hbm
   ·have := OB_lt (hs1.η k') (mine_live hm') hb'
    omega
  rcases hcase k with ⟨κ, g1, rfl⟩ | g1 <;> rcases hcase k' with ⟨κ', g2, rfl⟩ | g2
  ·rw [b1 κ g1] at h3
   rw [b1 κ' g2] at h4
   rw [r.dis κ κ' b g1 g2 h3 h4]
  ·exact (hx κ k' g1 g2 h2 h3 h4).elim
  ·exact (hx κ' k g2 g1 h1 h4 h3).elim
  ·rw [hη' k g1] at h1
   rw [hη' k' g2] at h2
   rw [b3 k (mine_live h1)] at h3
   rw [b3 k' (mine_live h2)] at h4
   exact hs1.dis k k' b h1 h2 h3 h4
 ·have hk : k ∈ (cond (Nat.beq t d) (x.ren g) (s1.ρ t)).keys := hk
  show (overO g O s1.η k).live = true
  rw [beq_ite] at hk
  split at hk
  ·rw [ren_keys] at hk
   obtain ⟨κ, hκ, rfl⟩ := List.mem_map.1 hk
   exact hkey κ (t4 κ hκ)
  ·exact hlive2 k (hs1.wf.ρ t k hk)
 ·have hk : k ∈ (overO g O s1.η t).keys := hk
  show (overO g O s1.η k).live = true
  rcases hcase t with ⟨κ, h1, rfl⟩ | ht
  ·rw [hη κ h1, AO.ren_keys] at hk
   obtain ⟨κ', hκ', rfl⟩ := List.mem_map.1 hk
   exact hkey κ' ((t3 _ (lookO_in h1)).2 κ' hκ')
  ·rw [hη' t ht] at hk
   exact hlive2 k (hs1.wf.η t k hk)
 ·rcases hcase k with ⟨κ, h1, rfl⟩ | hk'
  ·rw [b1 κ h1]
   cases hli : (lookO I κ).live with
   | false => have := (hnew κ h1 hli).2; omega
   | true =>
    by_cases h2 : κ < 2000
    ·have := hmov κ hli h2; omega
    ·rw [r.pin κ (by omega) hli]
     exact h.pin _ hk
  ·rw [b2 k hk']
   exact h.pin k hk
theorem op_mut (hC : CxOk C) (h : StO C n F ok0 w0 ok β s a w) (hd : ∀ d, o.dst = some d → d < n) {K' : S → Prop} (hm : MVC C own o s K') (hK : ∀ s' a' w', K' s' → St C n F ok0 w0 s' a' w' → K a' w') : o.wp C.P a w K Q := by
 unfold MVC at hm
 split at hm
 ·rename_i c d ho ed
  obtain ⟨callee, args, argTypes⟩ := c
  simp only at hm
  split at hm
  ·rename_i f
   split at hm
   ·rename_i f' caps ef
    rw [SV.forceL_eq] at hm
    have hm : ∃ s', MCallVC C s f' (args.toList.map s.ev ++ caps) d s' ∧ S.force s' K' := by
     cases e7 : own (d + 700000) with
     | false => rw [e7] at hm; exact hm
     | true =>
      rw [e7] at hm
      obtain ⟨s', h1, h2⟩ := hm
      exact ⟨s', h1.weak, h2⟩
    obtain ⟨s', hm, hk⟩ := hm
    rw [S.force_eq] at hk
    have hrf := asFn_R (ev_R h f)
    rw [ef, R] at hrf
    obtain ⟨vcaps, e1, hcaps⟩ := hrf
    have hargs : RL ok β w (args.toList.map s.ev ++ caps) (args.toList.map a.eval ++ vcaps) := by
     refine RL_append ?_ hcaps
     induction args.toList with
     | nil => trivial
     | cons x l ih => exact ⟨ev_R h x, ih⟩
    obtain ⟨⟨fn, hf1, hf2, hf3⟩, hcall⟩ := mcall_sound hC h (hd d ed) hm hargs
    have hexec : (execOp a.eval o).run C.P w = .ok (.enter f' (args.toList.map a.eval ++ vcaps).toArray) w := by
     have harr : args.map a.eval ++ vcaps.toArray = (args.toList.map a.eval ++ vcaps).toArray := by
      apply Array.ext'
      simp
     simp only [execOp, ho, resolve, Sem.run_bind, e1, Deferred.ofValue, Sem.run_pure, Result.andThen_ok, invoke, callFunc, run_program, hf1, hf2, hf3]
     simp [harr]
    unfold Oper.wp
    rw [hexec, Oper.upon_enter]
    refine hcall.mono ?_
    rintro e w' ⟨v, rfl, hst⟩
    show K (a.put o.dst v) w'
    rw [ed]
    exact hK _ _ _ hk hst
   ·exact hm.elim
  ·exact hm.elim
 ·exact hm.elim
end
end Go.Vc
namespace Go.Vc
open Go Go.RowKit Go.MapKept
def mkD (sk : Bool) : TypeDesc := cond sk .string (.int .i64)
theorem mk_isKey {sk : Bool} {a : MK} (ha : a.isS = sk) : IsKey (mkD sk) a.val := by
 subst ha
 cases a <;> simp [MK.isS, mkD, MK.val, IsKey]
theorem mk_val_inj {a b : MK} (h : a.val = b.val) : a = b := by
 cases a <;> cases b <;> simp [MK.val] at h
 ·rw [h]
 ·rw [h]
theorem sameNow_mk {sk : Bool} {a b : MK} (ha : a.isS = sk) (hb : b.isS = sk) : Instr.sameNow (mkD sk) a.val b.val = some (decide (a = b)) := by
 obtain ⟨r, h1, h2⟩ := sameNow_of_keys (mk_isKey ha) (mk_isKey hb)
 rw [h1]
 congr 1
 rw [Bool.eq_iff_iff, h2, decide_eq_true_iff]
 exact ⟨mk_val_inj, fun e => by rw [e]⟩
theorem findNow_mp {sk : Bool} {key : MK} (hk : key.isS = sk) (v : PV) : ∀ (es : List MapEntry) (L : List (MK × PV)) (i : Nat), es.map (·.key) = L.map (fun x => x.1.val) → (∀ x ∈ L, x.1.isS = sk) →
  (Instr.findNow (mkD sk) key.val es i = some none ∧ mget key L = none ∧ mput key v L = L ++ [(key, v)]) ∨
  ∃ j e x, Instr.findNow (mkD sk) key.val es i = some (some (i + j, e.val)) ∧ es[j]? = some e ∧ e.key = key.val ∧ L[j]? = some (key, x) ∧ mget key L = some x ∧ mput key v L = L.set j (key, v)
 | [], [], i, _, _ => .inl ⟨rfl, rfl, rfl⟩
 | [], _ :: _, i, h, _ => by simp at h
 | _ :: _, [], i, h, _ => by simp at h
 | e :: es, (k, x) :: L, i, h, hs => by
  simp only [List.map_cons, List.cons.injEq] at h
  have hsk := sameNow_mk hk (hs (k, x) (List.mem_cons_self ..))
  by_cases e1 : key = k
  ·subst e1
   refine .inr ⟨0, e, x, ?_, rfl, h.1, rfl, by simp [mget], by simp [mput]⟩
   simp only [Instr.findNow, h.1, hsk, decide_true]
   rfl
  ·have hr : Instr.findNow (mkD sk) key.val (e :: es) i = Instr.findNow (mkD sk) key.val es (i + 1) := by
    simp only [Instr.findNow, h.1, hsk, decide_eq_false e1]
   rw [hr]
   rcases findNow_mp hk v es L (i + 1) h.2 (fun y hy => hs y (List.mem_cons_of_mem _ hy)) with ⟨h1, h2, h3⟩ | ⟨j, e', x', h1, h2, h3, h4, h5, h6⟩
   ·exact .inl ⟨h1, by simp [mget, e1, h2], by simp [mput, e1, h3]⟩
   ·exact .inr ⟨j + 1, e', x', by rw [h1]; congr 3; omega, by simpa using h2, h3, by simpa using h4, by simp [mget, e1, h5], by simp [mput, e1, h6]⟩
section
variable {C : Cx} {n : Nat} {F : Fm} {ok0 : Nat → Prop} {w0 : World} {ok : Nat → Prop} {β : Nat → Value} {s : S} {a : Act} {w : World} {own : Nat → Bool} {o : Oper} {k : U → Prop} {K : Act → World → Prop} {Q : Exit → Act → World → Prop}
theorem mkOf_val (h : StO C n F ok0 w0 ok β s a w) {x : Operand} {key : MK} (e : mkOf (s.ev x) = some key) : a.eval x = key.val := by
 have hr := ev_R h x
 unfold mkOf at e
 split at e
 ·rename_i l ex
  cases e
  rw [ex, R, RP] at hr
  exact hr
 ·rename_i m ex
  cases e
  rw [ex, R, RP] at hr
  exact hr
 ·cases e
theorem toPL_R : ∀ {xs : List SV} {ys : List PV} {vs : List Value}, toPL xs = some ys → RL ok β w xs vs → RPL ok w ys vs
 | [], ys, [], e, h => by cases e; trivial
 | [], ys, _ :: _, e, h => h.elim
 | _ :: _, ys, [], e, h => h.elim
 | x :: xs, ys, v :: vs, e, h => by
  simp only [toPL] at e
  split at e
  ·rename_i y l e1 e2
   cases e
   exact ⟨toP1_R e1 h.1, toPL_R e2 h.2⟩
  ·cases e
theorem toP_R {x : SV} {y : PV} {v : Value} (e : toP x = some y) (h : R ok β w x v) : RP ok w y v := by
 unfold toP at e
 split at e
 ·rename_i cs
  obtain ⟨ys, e1, rfl⟩ := Option.map_eq_some_iff.1 e
  rw [R] at h
  obtain ⟨vs, h1, h2, h3⟩ := h
  rw [RP]
  exact ⟨vs, h1, h2, toPL_R e1 h3⟩
 ·exact toP1_R e h
theorem op_makeMap (hC : CxOk C) {t : TypeId} {r : Option Operand} (ho : o.op = .makeMap t r) (h : StO C n F ok0 w0 ok β s a w) (hd : ∀ d, o.dst = some d → d < n) (hvc : VC C own o s.ev s.η k)
  (hK : ∀ u a' w', k u → St C n F ok0 w0 (s.app o.dst u) a' w' → K a' w') : o.wp C.P a w K Q := by
 simp only [VC, ho] at hvc
 split at hvc
 ·rename_i d ti ed eT
  split at hvc
  ·rename_i eη
   obtain ⟨hk, hvc⟩ := hvc
   have hrun : (execOp a.eval o).run C.P w = .ok (.value (.map (some w.heap.size))) (w.alloc (.map #[] 0)) := by
    simp [execOp, ho, Instr.makeMap, newObj]
    rfl
   obtain ⟨obj, hvc, hobj⟩ : ∃ obj, k { x := .slc d, obj := some obj } ∧ (obj = .mp t (Nat.beq ti.k 7) [] ∨ obj = .fm t [] []) := by
    cases e : own (d + 300000) with
    | true => rw [e] at hvc; exact ⟨_, hvc, .inr rfl⟩
    | false => rw [e] at hvc; exact ⟨_, hvc, .inl rfl⟩
   have hlive : obj.live = true := by rcases hobj with rfl | rfl <;> rfl
   have hkeys : obj.keys = [] := by rcases hobj with rfl | rfl <;> rfl
   have hnv : ∀ o' t x, obj ≠ .var o' t x := by rcases hobj with rfl | rfl <;> intro _ _ _ h <;> cases h
   refine wp_value hrun (hK _ _ _ hvc ?_)
   rw [ed]
   have hb : Below w.heap.size w (w.alloc (.map #[] 0)) := (Below.refl _ _).alloc (Nat.le_refl _) _
   have h1 := h.world hC (ok' := ok) (below_w h.below hb) hb.size (fun b hlt _ => hb.block b hlt) (fun _ h => h) (fun _ h => .inl h)
   have hnew : ∀ κ, (s.η κ).live = true → blockOf (β κ) ≠ some w.heap.size := fun κ hl hbk => by have := OB_lt (h.η κ) hl hbk; omega
   have hkd2 : ∀ κ, (s.η κ).live = true → κ ≠ d := by
    rintro κ hl rfl
    rw [eη] at hl
    cases hl
   refine ⟨ok, fun κ => if κ = d then .map (some w.heap.size) else β κ, ?_⟩
   refine { h1 with
    defers := h1.defers
    size := by simp [Act.put, h1.size]
    ρ := ?_
    η := ?_
    ro := ?_
    dis := ?_
    wf := ?_
    pin := fun κ hκ => by show (if κ = d then _ else β κ) = _; have := Nat.lt_of_lt_of_le (hd d ed) h.n2; rw [if_neg (by omega)]; exact h.pin κ hκ }
   ·intro t'
    show R ok _ _ (((s.set d _).put d (.slc d)).ρ t') _
    rw [S.put_ρ, eval_put (by rw [h1.size]; exact hd d ed)]
    by_cases e : t' = d
    ·rw [if_pos e, if_pos e, R, if_pos rfl]
     exact ⟨rfl, rfl⟩
    ·rw [if_neg e, if_neg e]
     exact R_keys (fun κ hκ => if_neg (hkd2 κ (h.wf.ρ t' κ hκ))) (h1.ρ t')
   ·intro κ
    show OB C ok _ _ _ κ ((s.set d _).η κ)
    rw [S.set_η]
    by_cases e : κ = d
    ·rw [if_pos e]
     subst e
     rcases hobj with rfl | rfl
     ·exact ⟨w.heap.size, #[], 0, if_pos rfl, (heap_alloc w _).1, fun hc => by have := h.lt _ hc; omega, .inr h.below.size, rfl, trivial, (fun x hx => by cases hx), List.nodup_nil, fun e he => (by cases he)⟩
     ·exact ⟨w.heap.size, #[], 0, if_pos rfl, (heap_alloc w _).1, fun hc => by have := h.lt _ hc; omega, .inr h.below.size, rfl, trivial, fun x hx => by cases hx⟩
    ·rw [if_neg e]
     exact OB_move (h1.η κ) (fun _ => if_neg e) (fun κ' hκ' => if_neg (hkd2 κ' (h.wf.η κ κ' hκ'))) (fun _ h => h) (Stay.refl _ _) (fun b _ _ hlt => rfl) (fun b _ _ _ hn => hn)
   ·intro κ t' x b hη hbk
    change (s.set d _).η κ = _ at hη
    rw [S.set_η] at hη
    by_cases e : κ = d
    ·rw [if_pos e] at hη; exact (hnv _ _ _ hη).elim
    ·rw [if_neg e] at hη
     rw [if_neg e] at hbk
     exact h1.ro κ t' x b hη hbk
   ·intro κ κ' b hm hm' hbk hbk'
    change ((s.set d _).η κ).mine = true at hm
    change ((s.set d _).η κ').mine = true at hm'
    rw [S.set_η] at hm hm'
    by_cases e : κ = d <;> by_cases e' : κ' = d
    ·rw [e, e']
    ·rw [if_pos e] at hbk
     rw [if_neg e'] at hbk' hm'
     have : b = w.heap.size := by simpa [blockOf] using hbk.symm
     rw [this] at hbk'
     exact absurd hbk' (hnew κ' (mine_live hm'))
    ·rw [if_pos e'] at hbk'
     rw [if_neg e] at hbk hm
     have : b = w.heap.size := by simpa [blockOf] using hbk'.symm
     rw [this] at hbk
     exact absurd hbk (hnew κ (mine_live hm))
    ·rw [if_neg e] at hbk hm
     rw [if_neg e'] at hbk' hm'
     exact h1.dis κ κ' b hm hm' hbk hbk'
   ·have hl : ∀ κ, (s.η κ).live = true → ((s.set d obj).η κ).live = true := by
     intro κ hκ
     rw [S.set_η, if_neg (hkd2 κ hκ)]
     exact hκ
    refine WF.put ⟨fun t' κ hκ => hl κ (h.wf.ρ t' κ hκ), fun t' κ hκ => ?_⟩ ?_
    ·rw [S.set_η] at hκ
     split at hκ
     ·rw [hkeys] at hκ; cases hκ
     ·exact hl κ (h.wf.η t' κ hκ)
    ·intro κ hκ
     simp [SV.keys] at hκ
     subst hκ
     rw [S.set_η, if_pos rfl]
     exact hlive
  ·exact hvc.elim
 ·exact hvc.elim
theorem mk_beq {a b : MK} : (a == b) = decide (a = b) := by
 cases e : decide (a = b) with
 | true => have := of_decide_eq_true e; subst this; simp
 | false => have := of_decide_eq_false e; simp [this]
theorem findNow_fm {key : MK} (hk : key.isS = false) : ∀ (es : List MapEntry) (ks : List MK) (xs : List SV) (i : Nat), es.map (·.key) = ks.map MK.val → (∀ x ∈ ks, x.isS = false) → xs.length = es.length →
  (Instr.findNow (mkD false) key.val es i = some none ∧ fget key ks xs = none ∧ ks.contains key = false) ∨
  ∃ j e x, Instr.findNow (mkD false) key.val es i = some (some (i + j, e.val)) ∧ es[j]? = some e ∧ xs[j]? = some x ∧ fget key ks xs = some x ∧ ks.contains key = true
 | [], [], [], i, _, _, _ => .inl ⟨rfl, rfl, rfl⟩
 | [], [], _ :: _, i, _, _, hl => by simp at hl
 | [], _ :: _, _, i, h, _, _ => by simp at h
 | _ :: _, [], _, i, h, _, _ => by simp at h
 | _ :: _, _ :: _, [], i, _, _, hl => by simp at hl
 | e :: es, k :: ks, x :: xs, i, h, hs, hl => by
  simp only [List.map_cons, List.cons.injEq] at h
  have hsk := sameNow_mk hk (hs k (List.mem_cons_self ..))
  by_cases e1 : key = k
  ·subst e1
   refine .inr ⟨0, e, x, ?_, rfl, rfl, by simp [fget], by simp⟩
   simp only [Instr.findNow, h.1, hsk, decide_true]
   rfl
  ·have hr : Instr.findNow (mkD false) key.val (e :: es) i = Instr.findNow (mkD false) key.val es (i + 1) := by
    simp only [Instr.findNow, h.1, hsk, decide_eq_false e1]
   rw [hr]
   rcases findNow_fm hk es ks xs (i + 1) h.2 (fun y hy => hs y (List.mem_cons_of_mem _ hy)) (by simpa using hl) with ⟨h1, h2, h3⟩ | ⟨j, e', x', h1, h2, h3, h4, h5⟩
   ·exact .inl ⟨h1, by simp [fget, e1, h2], by rw [List.contains_cons, mk_beq, h3]; simp [e1]⟩
   ·exact .inr ⟨j + 1, e', x', by rw [h1]; congr 3; omega, by simpa using h2, by simpa using h3, by simp [fget, e1, h4], by rw [List.contains_cons, h5]; simp⟩
theorem op_lookup (hC : CxOk C) {t : TypeId} {x ix : Operand} {cm : Bool} (ho : o.op = .lookup t x ix cm) (h : StO C n F ok0 w0 ok β s a w) (hd : ∀ d, o.dst = some d → d < n) (hvc : VC C own o s.ev s.η k)
  (hK : ∀ u a' w', k u → St C n F ok0 w0 (s.app o.dst u) a' w' → K a' w') : o.wp C.P a w K Q := by
 simp only [VC, ho] at hvc
 split at hvc
 ·rename_i ti κ eT ex
  split at hvc
  ·rename_i t' sk L key te eη ek eE
   obtain ⟨rfl, hsk, hsk7, hk, r, hr, hvc⟩ := hvc
   obtain ⟨kt, hut, huk⟩ := (hC.ty _ _ eT).map hk
   rw [← hsk7] at huk
   have hob := h.η κ
   rw [eη] at hob
   obtain ⟨rb, es, clock, q1, q2, q3, q4, q5, q6, q7⟩ := hob
   have hrx := ev_R h x
   rw [ex, R, q1] at hrx
   have hkey := mkOf_val h ek
   obtain ⟨z, hz, hz2, hz3, _⟩ := (hC.ty _ _ eE).zero w
   have hzR : R ok β w (.p te.zero) z := by rw [← hz2]; exact cv_R z
   have hck := Go.MapKept.run_checkKey (P := C.P) (w := w) huk (mk_isKey hsk) es.isEmpty 9999
   rcases findNow_mp hsk te.zero es.toList L 0 q5 q7.1 with ⟨h1, h2, _⟩ | ⟨j, e, y, h1, h2, h3, h4, h5, _⟩
   ·rw [h2] at hr
    subst hr
    have hfk := Go.MapKept.run_findKey (P := C.P) (w := w) huk h1
    have hrun : (Instr.lookup t' (a.eval x) (a.eval ix) cm).run C.P w = .ok (if cm then .tuple #[z, .bool false] else z) w := by
     rw [hrx.1, hkey]
     simp [Instr.lookup, run_underlying hut, Go.MapKept.run_getObj_map q2, hck, hfk, hz, Result.andThen]
    refine wp_read h hd hK (v := if cm then .tuple #[z, .bool false] else z) (by simp [execOp, ho, hrun]) hvc ?_ ?_
    ·cases cm with
     | true => simp only [cond_true, R]; exact ⟨[z, .bool false], rfl, hzR, rfl, trivial⟩
     | false => exact hzR
    ·intro κ' hκ'; cases cm <;> simp [SV.keys, SV.keysL] at hκ'
   ·rw [h5] at hr
    subst hr
    have hfk := Go.MapKept.run_findKey (P := C.P) (w := w) huk h1
    have hrun : (Instr.lookup t' (a.eval x) (a.eval ix) cm).run C.P w = .ok (if cm then .tuple #[e.val, .bool true] else e.val) w := by
     rw [hrx.1, hkey]
     simp [Instr.lookup, run_underlying hut, Go.MapKept.run_getObj_map q2, hck, hfk, Result.andThen]
    have hyR : RP ok w y e.val := by
     obtain ⟨v, hv, hr⟩ := RPL_get q6 (i := j) (x := y) (by rw [List.getElem?_map, h4]; rfl)
     rw [List.getElem?_map, h2] at hv
     cases hv
     exact hr
    refine wp_read h hd hK (v := if cm then .tuple #[e.val, .bool true] else e.val) (by simp [execOp, ho, hrun]) hvc ?_ ?_
    ·cases cm with
     | true => simp only [cond_true, R]; exact ⟨[e.val, .bool true], rfl, hyR, rfl, trivial⟩
     | false => exact hyR
    ·intro κ' hκ'; cases cm <;> simp [SV.keys, SV.keysL] at hκ'
  ·rename_i t' ks xs key te eη ek eE
   obtain ⟨rfl, hsk, hk8, rfl, r, hr, hvc⟩ := hvc
   obtain ⟨kt, hut, huk⟩ := (hC.ty _ _ eT).map (by rw [hk8]; rfl)
   rw [show Nat.beq ti.k 7 = false by rw [hk8]; rfl] at huk
   have hob := h.η κ
   rw [eη] at hob
   obtain ⟨rb, es, clock, q1, q2, q3, q4, q5, q6, q7⟩ := hob
   have hrx := ev_R h x
   rw [ex, R, q1] at hrx
   have hkey := mkOf_val h ek
   obtain ⟨z, hz, hz2, hz3, _⟩ := (hC.ty _ _ eE).zero w
   have hzR : R ok β w (.p te.zero) z := by rw [← hz2]; exact cv_R z
   have hck := Go.MapKept.run_checkKey (P := C.P) (w := w) huk (mk_isKey hsk) es.isEmpty 9999
   rcases findNow_fm hsk es.toList ks xs 0 q5 q7 (by have := RL_length q6; simpa using this.symm) with ⟨h1, h2, _⟩ | ⟨j, e, y, h1, h2, h3, h4, _⟩
   ·rw [h2] at hr
    subst hr
    have hfk := Go.MapKept.run_findKey (P := C.P) (w := w) huk h1
    have hrun : (Instr.lookup t' (a.eval x) (a.eval ix) false).run C.P w = .ok z w := by
     rw [hrx.1, hkey]
     simp [Instr.lookup, run_underlying hut, Go.MapKept.run_getObj_map q2, hck, hfk, hz, Result.andThen]
    exact wp_read h hd hK (v := z) (by simp [execOp, ho, hrun]) hvc hzR (by intro κ' hκ'; simp [SV.keys] at hκ')
   ·rw [h4] at hr
    subst hr
    have hfk := Go.MapKept.run_findKey (P := C.P) (w := w) huk h1
    have hrun : (Instr.lookup t' (a.eval x) (a.eval ix) false).run C.P w = .ok e.val w := by
     rw [hrx.1, hkey]
     simp [Instr.lookup, run_underlying hut, Go.MapKept.run_getObj_map q2, hck, hfk, Result.andThen]
    have hyR : R ok β w y e.val := by
     obtain ⟨v, hv, hr⟩ := RL_get q6 (i := j) (x := y) h3
     rw [List.getElem?_map, h2] at hv
     cases hv
     exact hr
    exact wp_read h hd hK (v := e.val) (by simp [execOp, ho, hrun]) hvc hyR fun κ' hκ' => h.wf.η κ κ' (by rw [eη]; exact keysL_mem (List.mem_of_getElem? h3) hκ')
  ·exact hvc.elim
 ·exact hvc.elim
theorem setHeap_same (w : World) (r : Nat) (o' : Obj) {b : Nat} (h : b ≠ r) : ({ w with heap := w.heap.setIfInBounds r o' } : World).heap[b]? = w.heap[b]? := by
 simp [Ne.symm h]
theorem RPL_set : ∀ {xs : List PV} {vs : List Value} {x : PV} {v : Value} (n : Nat), RPL ok w xs vs → RP ok w x v → RPL ok w (xs.set n x) (vs.set n v)
 | [], [], x, v, n, h, _ => by simpa using h
 | [], _ :: _, x, v, n, h, _ => h.elim
 | _ :: _, [], x, v, n, h, _ => h.elim
 | y :: xs, u :: vs, x, v, 0, h, hx => by simpa using ⟨hx, h.2⟩
 | y :: xs, u :: vs, x, v, n + 1, h, hx => by simpa using ⟨h.1, RPL_set n h.2 hx⟩
theorem RPL_append : ∀ {xs ys : List PV} {vs us : List Value}, RPL ok w xs vs → RPL ok w ys us → RPL ok w (xs ++ ys) (vs ++ us)
 | [], ys, [], us, h, h' => by simpa using h'
 | [], _, _ :: _, _, h, _ => h.elim
 | _ :: _, _, [], _, h, _ => h.elim
 | x :: xs, ys, v :: vs, us, h, h' => ⟨h.1, RPL_append h.2 h'⟩
theorem set_map_same {α β : Type} {f : α → β} : ∀ {l : List α} {j : Nat} {x y : α}, l[j]? = some x → f y = f x → (l.set j y).map f = l.map f
 | [], j, x, y, h, _ => by simp at h
 | a :: l, 0, x, y, h, e => by simp at h; subst h; simp [e]
 | a :: l, j + 1, x, y, h, e => by
  rw [List.set_cons_succ, List.map_cons, List.map_cons, set_map_same (by simpa using h) e]
theorem stm_push {es : Array MapEntry} {clock : Nat} {key val : Value} (h : Stm es clock) : Stm (es.push { key := key, val := val, born := clock }) (clock + 1) := by
 refine ⟨?_, fun e he => ?_⟩
 ·simp only [Array.toList_push, List.map_append, List.map_cons, List.map_nil]
  refine List.nodup_append.2 ⟨h.1, by simp, fun a ha b hb e => ?_⟩
  obtain ⟨x, hx, rfl⟩ := List.mem_map.1 ha
  have := h.2 x hx
  have hb : b = clock := by simpa using hb
  omega
 ·simp only [Array.toList_push, List.mem_append, List.mem_singleton] at he
  rcases he with he | he
  ·have := h.2 e he; omega
  ·rw [he]; exact Nat.lt_succ_self _
theorem stm_set {es es' : Array MapEntry} {clock j : Nat} {e : MapEntry} {key val : Value} (h : Stm es clock) (hm : es'.toList = es.toList.set j { e with key := key, val := val }) (h2 : es.toList[j]? = some e) : Stm es' clock := by
 have h3 : es'.toList.map (·.born) = es.toList.map (·.born) := by
  rw [hm]
  exact set_map_same (f := fun e : MapEntry => e.born) (x := e) (y := { e with key := key, val := val }) h2 rfl
 refine ⟨by rw [h3]; exact h.1, fun z hz => ?_⟩
 rw [hm] at hz
 rcases List.mem_or_eq_of_mem_set hz with hz | hz
 ·exact h.2 z hz
 ·rw [hz]; exact h.2 e (List.mem_of_getElem? h2)
theorem St_mapset (hC : CxOk C) (h : StO C n F ok0 w0 ok β s a w) {κ r : Nat} {t : TypeId} {sk : Bool} {L L' : List (MK × PV)} {es' : Array MapEntry} {clock' : Nat} (eη : s.η κ = .mp t sk L) (hβ : β κ = .map (some r)) {ob : Obj} (hheap : w.heap[r]? = some ob) (hnok : ¬ ok r) (hM : may F w0 r)
  (h5 : es'.toList.map (·.key) = L'.map (fun x => x.1.val)) (h6 : RPL ok w (L'.map (·.2)) (es'.toList.map (·.val))) (h7 : ∀ x ∈ L', x.1.isS = sk) (h8 : Stm es' clock') :
  StO C n F ok0 w0 ok β (s.set κ (.mp t sk L')) a { w with heap := w.heap.setIfInBounds r (.map es' clock') } := by
 have hlt : r < w.heap.size := (Array.getElem?_eq_some_iff.1 hheap).1
 have hsame : ∀ b, b ≠ r → ({ w with heap := w.heap.setIfInBounds r (.map es' clock') } : World).heap[b]? = w.heap[b]? := fun b hb => setHeap_same w r _ hb
 have hst : Stay ok w { w with heap := w.heap.setIfInBounds r (.map es' clock') } := fun b hb _ => hsame b fun e => hnok (e ▸ hb)
 refine h.reobj hC (by rw [eη]; rfl) rfl (b := r) (by rw [hβ]; rfl) hsame (by simp) ⟨rfl, rfl, rfl⟩ ⟨r, es', clock', hβ, ?_, hnok, hM, h5, RPL_stay (fun _ h => h) hst h6, h7, h8⟩ (by intro κ' hκ'; cases hκ')
 show (w.heap.setIfInBounds r _)[r]? = _
 simp [hlt]
theorem mapUpdate_core (hC : CxOk C) {t : TypeId} {m ix x : Operand} (ho : (execOp a.eval o) = (do Instr.mapUpdate t (a.eval m) (a.eval ix) (a.eval x); pure .skip)) (h : StO C n F ok0 w0 ok β s a w) {ti : TI} {κ : Nat} {sk : Bool} {L : List (MK × PV)} {key : MK} {v : PV} (ed : o.dst = none) (eT : C.T t = some ti) (em : s.ev m = .slc κ) (eη : s.η κ = .mp t sk L)
  (ek : mkOf (s.ev ix) = some key) (ev : toP (s.ev x) = some v) (hsk : key.isS = sk) (hsk7 : sk = Nat.beq ti.k 7) (hk : (Nat.beq ti.k 7 || Nat.beq ti.k 8) = true) (hvc : k { x := .no, st := some (κ, .mp t sk (mput key v L)) })
  (hK : ∀ u a' w', k u → St C n F ok0 w0 (s.app o.dst u) a' w' → K a' w') : o.wp C.P a w K Q := by
 obtain ⟨kt, hut, huk⟩ := (hC.ty _ _ eT).map hk
 rw [← hsk7] at huk
 have hob := h.η κ
 rw [eη] at hob
 obtain ⟨rb, es, clock, q1, q2, q3, q4, q5, q6, q7, q8⟩ := hob
 have hrx := ev_R h m
 rw [em, R, q1] at hrx
 have hkey := mkOf_val h ek
 have hvR := toP_R ev (ev_R h x)
 have hck := Go.MapKept.run_checkKey (P := C.P) (w := w) huk (mk_isKey hsk) false 9999
 rcases findNow_mp hsk v es.toList L 0 q5 q7 with ⟨h1, h2, h3⟩ | ⟨j, e, y, h1, h2, h3, h4, h5, h6⟩
 ·have hfk := Go.MapKept.run_findKey (P := C.P) (w := w) huk h1
  have hrun : (Instr.mapUpdate t (a.eval m) (a.eval ix) (a.eval x)).run C.P w = .ok () { w with heap := w.heap.setIfInBounds rb (.map (es.push { key := key.val, val := a.eval x, born := clock }) (clock + 1)) } := by
   rw [hrx.1, hkey]
   simp [Instr.mapUpdate, run_underlying hut, Go.MapKept.run_getObj_map q2, hck, hfk, Go.MapKept.run_setObj_map _ q2, Result.andThen]
  refine wp_skip (w' := { w with heap := w.heap.setIfInBounds rb (.map (es.push { key := key.val, val := a.eval x, born := clock }) (clock + 1)) }) (by rw [ho]; simp [hrun]) (hK _ _ _ hvc ?_)
  rw [ed]
  refine ⟨ok, β, St_mapset hC h eη q1 q2 q3 q4 ?_ ?_ ?_ (stm_push q8)⟩
  ·rw [h3]; simp [q5]
  ·rw [h3]
   simp only [List.map_append, List.map_cons, List.map_nil, Array.toList_push]
   exact RPL_append q6 ⟨hvR, trivial⟩
  ·intro z hz
   rw [h3] at hz
   rcases List.mem_append.1 hz with hz | hz
   ·exact q7 z hz
   ·rw [List.mem_singleton.1 hz]; exact hsk
 ·have hfk := Go.MapKept.run_findKey (P := C.P) (w := w) huk h1
  rw [Nat.zero_add] at hfk
  have hj : es[j]? = some e := by simpa using h2
  have hrun : (Instr.mapUpdate t (a.eval m) (a.eval ix) (a.eval x)).run C.P w = .ok () { w with heap := w.heap.setIfInBounds rb (.map (es.modify j fun e => { e with key := key.val, val := a.eval x }) clock) } := by
   rw [hrx.1, hkey]
   simp [Instr.mapUpdate, run_underlying hut, Go.MapKept.run_getObj_map q2, hck, hfk, hj, h3, Go.MapKept.run_keyThatStays (mk_isKey hsk), Go.MapKept.run_setObj_map _ q2, Result.andThen]
  refine wp_skip (w' := { w with heap := w.heap.setIfInBounds rb (.map (es.modify j fun e => { e with key := key.val, val := a.eval x }) clock) }) (by rw [ho]; simp [hrun]) (hK _ _ _ hvc ?_)
  rw [ed]
  have hmod : (es.modify j fun e => { e with key := key.val, val := a.eval x }).toList = es.toList.set j { e with key := key.val, val := a.eval x } := by
   apply List.ext_getElem?
   intro i
   rw [Array.getElem?_toList, Array.getElem?_modify, List.getElem?_set]
   have hjl : j < es.toList.length := (List.getElem?_eq_some_iff.1 h2).1
   by_cases hij : j = i
   ·subst hij
    simp [hj]
    simpa using hjl
   ·simp [hij]
  refine ⟨ok, β, St_mapset hC h eη q1 q2 q3 q4 ?_ ?_ ?_ (stm_set q8 hmod h2)⟩
  ·rw [h6, hmod, set_map_same h2 (by exact h3.symm), set_map_same (y := (key, v)) h4 rfl]
   exact q5
  ·rw [h6, hmod, List.map_set, List.map_set]
   exact RPL_set j q6 hvR
  ·intro z hz
   rw [h6] at hz
   rcases List.mem_or_eq_of_mem_set hz with hz | hz
   ·exact q7 z hz
   ·rw [hz]; exact hsk
theorem op_mapUpdate (hC : CxOk C) {t : TypeId} {m ix x : Operand} (ho : o.op = .mapUpdate t m ix x) (h : StO C n F ok0 w0 ok β s a w) (hvc : VC C own o s.ev s.η k)
  (hK : ∀ u a' w', k u → St C n F ok0 w0 (s.app o.dst u) a' w' → K a' w') : o.wp C.P a w K Q := by
 simp only [VC, ho] at hvc
 split at hvc
 ·rename_i ti κ ed eT em
  split at hvc
  ·rename_i t' sk L key v eη ek ev
   obtain ⟨rfl, hsk, hsk7, hk, hvc⟩ := hvc
   exact mapUpdate_core hC (by simp [execOp, ho]) h ed eT em eη ek ev hsk hsk7 hk hvc hK
  ·exact hvc.elim
 ·exact hvc.elim
theorem op_insert (hC : CxOk C) {t : TypeId} {m ix x : Operand} (ho : o.op = .insert t m ix x) (h : StO C n F ok0 w0 ok β s a w) (hvc : VC C own o s.ev s.η k)
  (hK : ∀ u a' w', k u → St C n F ok0 w0 (s.app o.dst u) a' w' → K a' w') : o.wp C.P a w K Q := by
 simp only [VC, ho] at hvc
 split at hvc
 ·rename_i ti κ ed eT em
  split at hvc
  ·rename_i t' sk L key v eη ek ev
   obtain ⟨rfl, hsk, hsk7, hk, hvc⟩ := hvc
   exact mapUpdate_core hC (by simp [execOp, ho]) h ed eT em eη ek ev hsk hsk7 hk hvc hK
  ·rename_i ov t' ks xs key eη ek
   obtain ⟨rfl, hsk, hk8, hnew, hvc⟩ := hvc
   obtain ⟨kt, hut, huk⟩ := (hC.ty _ _ eT).map (by rw [hk8]; rfl)
   rw [show Nat.beq ti.k 7 = false by rw [hk8]; rfl] at huk
   have hob := h.η κ
   rw [eη] at hob
   obtain ⟨rb, es, clock, q1, q2, q3, q4, q5, q6, q7⟩ := hob
   have hrx := ev_R h m
   rw [em, R, q1] at hrx
   have hkey := mkOf_val h ek
   have hvR := ev_R h x
   have hck := Go.MapKept.run_checkKey (P := C.P) (w := w) huk (mk_isKey hsk) false 9999
   rcases findNow_fm hsk es.toList ks xs 0 q5 q7 (by have := RL_length q6; simpa using this.symm) with ⟨h1, h2, h3⟩ | ⟨j, e, y, h1, h2, h3, h4, h5⟩
   ·have hfk := Go.MapKept.run_findKey (P := C.P) (w := w) huk h1
    have hrun : (Instr.mapUpdate t' (a.eval m) (a.eval ix) (a.eval x)).run C.P w = .ok () { w with heap := w.heap.setIfInBounds rb (.map (es.push { key := key.val, val := a.eval x, born := clock }) (clock + 1)) } := by
     rw [hrx.1, hkey]
     simp [Instr.mapUpdate, run_underlying hut, Go.MapKept.run_getObj_map q2, hck, hfk, Go.MapKept.run_setObj_map _ q2, Result.andThen]
    refine wp_skip (w' := { w with heap := w.heap.setIfInBounds rb (.map (es.push { key := key.val, val := a.eval x, born := clock }) (clock + 1)) }) (by simp [execOp, ho, hrun]) (hK _ _ _ hvc ?_)
    rw [ed]
    have hlt : rb < w.heap.size := (Array.getElem?_eq_some_iff.1 q2).1
    have hsame : ∀ b, b ≠ rb → ({ w with heap := w.heap.setIfInBounds rb (.map (es.push { key := key.val, val := a.eval x, born := clock }) (clock + 1)) } : World).heap[b]? = w.heap[b]? := fun b hb => setHeap_same w rb _ hb
    have hst : Stay ok w { w with heap := w.heap.setIfInBounds rb (.map (es.push { key := key.val, val := a.eval x, born := clock }) (clock + 1)) } := fun b hb _ => hsame b fun e => q3 (e ▸ hb)
    refine ⟨ok, β, h.reobj hC (by rw [eη]; rfl) rfl (b := rb) (by rw [q1]; rfl) hsame (by simp) ⟨rfl, rfl, rfl⟩ ⟨rb, es.push { key := key.val, val := a.eval x, born := clock }, clock + 1, q1, ?_, q3, q4, ?_, ?_, ?_⟩ ?_⟩
    ·show (w.heap.setIfInBounds rb _)[rb]? = _
     simp [hlt]
    ·simp [q5]
    ·simp only [List.map_append, List.map_cons, List.map_nil, Array.toList_push]
     exact RL_append (RL_stay (fun _ h => h) hst q6) ⟨R_stay (fun _ h => h) hst hvR, trivial⟩
    ·intro z hz
     rcases List.mem_append.1 hz with hz | hz
     ·exact q7 z hz
     ·rw [List.mem_singleton.1 hz]; exact hsk
    ·intro κ' hκ'
     change κ' ∈ SV.keysL (xs ++ [s.ev x]) at hκ'
     rw [keysL_append, List.mem_append] at hκ'
     rcases hκ' with hκ' | hκ'
     ·exact h.wf.η κ κ' (by rw [eη]; exact hκ')
     ·exact ev_keys h x κ' (by simpa [SV.keysL] using hκ')
   ·rw [hnew] at h5; cases h5
  ·exact hvc.elim
 ·exact hvc.elim
theorem op_clear (hC : CxOk C) {c : Call} (ho : o.op = .call c) (hb : c.callee = .builtin .clear) (h : StO C n F ok0 w0 ok β s a w) (hvc : VC C own o s.ev s.η k)
  (hK : ∀ u a' w', k u → St C n F ok0 w0 (s.app o.dst u) a' w' → K a' w') : o.wp C.P a w K Q := by
 obtain ⟨callee, args, argTypes⟩ := c
 subst hb
 simp only [VC, ho] at hvc
 split at hvc
 ·rename_i x t ed eA eTy
  have hargs : args = #[x] := by
   apply Array.ext'
   simpa using eA
  have hty : argTypes = #[t] := by
   apply Array.ext'
   simpa using eTy
  subst hargs hty
  split at hvc
  ·rename_i ti κ eT ex
   split at hvc
   ·rename_i t' sk L eη
    obtain ⟨rfl, hvc⟩ := hvc
    have hob := h.η κ
    rw [eη] at hob
    obtain ⟨rb, es, clock, q1, q2, q3, q4, q5, q6, q7⟩ := hob
    have hrx := ev_R h x
    rw [ex, R, q1] at hrx
    obtain ⟨d, hd⟩ := (hC.ty _ _ eT).und
    have hrun : (Builtin.clear_ #[t'] o.type #[a.eval x]).run C.P w = .ok (.tuple #[]) { w with heap := w.heap.setIfInBounds rb (.map #[] clock) } := by
     rw [hrx.1]
     simp [Builtin.clear_, run_underlying hd, Go.MapKept.run_getObj_map q2, Go.MapKept.run_setObj_map _ q2, Result.andThen]
    refine wp_value (v := .tuple #[]) (w' := { w with heap := w.heap.setIfInBounds rb (.map #[] clock) }) (by simp [execOp, ho, resolve, invoke, builtin, hrun]) (hK _ _ _ hvc ?_)
    rw [ed]
    exact ⟨ok, β, St_mapset hC h eη q1 q2 q3 q4 rfl trivial (fun x hx => by cases hx) ⟨List.nodup_nil, fun e he => (by cases he)⟩⟩
   ·exact hvc.elim
  ·rename_i ti κ sz i eT ex
   split at hvc
   ·rename_i e sz' L te eη eE
    obtain ⟨hk, rfl, rfl, rfl, hsz1, hagg, hlt, hvc⟩ := hvc
    have hrx := ev_R h x
    rw [ex, R] at hrx
    obtain ⟨g, m, cap, hβ, hv⟩ := hrx
    rw [add_plain, Nat.zero_add, Nat.mul_one] at hv
    have hob := h.η κ
    rw [eη] at hob
    obtain ⟨hp0, ⟨xs, hrow, hrr⟩, hnok⟩ := hob
    obtain ⟨cur, hm, hg, hheap, c1, c2, c3, c4⟩ : ∃ cur, m = L.length ∧ 0 ≤ g ∧ w.heap[g]? = some (.cells cur ti.elem (0, 0)) ∧ L.length ≤ cap ∧ cap ≤ maxLen ∧ cur.size = cap * 1 ∧ cur.toList.take (L.length * 1) = xs := by
     rcases hrow.2 with ⟨_, q⟩ | ⟨g', cap', cur, q, q2, q3, q4, q5, q6, q7⟩
     ·omega
     ·rw [q] at hβ
      simp only [Value.slice.injEq, Option.some.injEq, Addr.mk.injEq] at hβ
      obtain ⟨⟨rfl, _⟩, rfl, rfl⟩ := hβ
      exact ⟨cur, rfl, q2, q3, q4, q5, q6, q7⟩
    subst hm
    obtain ⟨z, hz, hz2, hz3, hz4, _⟩ := (hC.ty _ _ eE).zero w
    have hzo := hz4 hagg
    have hz1 : z.cells = #[z] := one_cells hzo
    have hzc : (Builtin.zeroCells z.cells (L.length - i)).toList = List.replicate (L.length - i) z := by
     rw [hz1]
     simp [Builtin.zeroCells]
     apply List.ext_getElem
     ·simp
     ·intro i h1 h2
      simp [Nat.mod_one]
    have hcl : cur.toList.length = cap := by simpa using c3
    have hst := run_storeCells_at C.P g i ti.elem (List.replicate (L.length - i) z) 0 cur w hheap (by simp; omega) (by intro v hv'; rw [List.eq_of_mem_replicate hv']; exact hzo)
    simp only [Nat.add_zero, List.length_replicate] at hst
    obtain ⟨vs', hvs'⟩ : ∃ vs', vs' = cur.toList.take i ++ List.replicate (L.length - i) z ++ cur.toList.drop (i + (L.length - i)) := ⟨_, rfl⟩
    rw [← hvs'] at hst
    obtain ⟨w', hw'⟩ : ∃ w', w' = w.setRow g vs'.toArray := ⟨_, rfl⟩
    rw [← hw'] at hst
    have hrun : (Builtin.clear_ #[t] o.type #[a.eval x]).run C.P w = .ok (.tuple #[]) w' := by
     rw [hv]
     obtain ⟨q, hq⟩ : ∃ q, L.length - i = q + 1 := ⟨L.length - i - 1, by omega⟩
     rw [hq] at hzc hst ⊢
     have hz' : (zeroValue ti.elem).run C.P w = .ok z w := hz
     simp [Builtin.clear_, run_underlying ((hC.ty _ _ eT).slice hk), hz', hzc, hst]
    have hbk : blockOf (β κ) = some g := by rw [hβ]; rfl
    have hng : ¬ ok g := (hnok g (by rw [hβ]; rfl)).1
    have hmine : (s.η κ).mine = true := by rw [eη]; rfl
    have hsame : ∀ b2, b2 ≠ g → w'.heap[b2]? = w.heap[b2]? := fun b2 hb2 => by rw [hw']; exact setRow_same _ _ _ hb2
    have hst2 : Stay ok w w' := fun b2 hb2 _ => hsame b2 fun e2 => hng (by rw [← e2]; exact hb2)
    have hzR : RP ok w' te.zero z := by
     have := cv_R (ok := ok) (β := β) (w := w') z
     rw [hz2, R] at this
     exact this
    have hML : (L.take i ++ List.replicate (L.length - i) te.zero).length = L.length := by simp; omega
    have hxl : xs.length = L.length := by rw [hrr.1, Nat.mul_one]
    have htake : vs'.take (L.length * 1) = xs.take i ++ List.replicate (L.length - i) z := by
     rw [hvs', Nat.mul_one, List.append_assoc, ← List.append_assoc, List.take_append_of_le_length (by simp; omega), List.take_of_length_le (by simp; omega), ← c4, Nat.mul_one, List.take_take, Nat.min_eq_left (by omega)]
    refine wp_value (v := .tuple #[]) (w' := w') (by simp [execOp, ho, resolve, invoke, builtin, hrun]) (hK _ _ _ hvc ?_)
    rw [ed]
    refine ⟨ok, β, h.reobj hC (o' := .row ti.elem 1 (L.take i ++ List.replicate (L.length - i) te.zero)) hmine rfl hbk hsame (by rw [hw']; exact setRow_size _ _ _) (by rw [hw']; exact ⟨rfl, rfl, rfl⟩) ⟨hp0, ⟨xs.take i ++ List.replicate (L.length - i) z, ⟨by rw [hML, List.length_append, List.length_take, List.length_replicate, hxl]; omega, .inr ⟨g, cap, vs'.toArray, by rw [hβ, hML], hg, by rw [hw']; exact setRow_at hheap _, by rw [hML]; exact c1, c2, ?_, by rw [hML]; simpa using htake⟩⟩, ?_⟩, hnok⟩ (by intro κ' hκ'; cases hκ')⟩
    ·rw [List.size_toArray, hvs', List.length_append, List.length_append, List.length_drop, List.length_take, List.length_replicate, hcl]; omega
    ·refine ⟨by rw [hML, List.length_append, List.length_take, List.length_replicate, hxl]; omega, fun j y hy => ?_⟩
     rw [Nat.mul_one]
     by_cases hji : j < i
     ·rw [List.getElem?_append_left (by rw [List.length_take]; omega), List.getElem?_take_of_lt hji] at hy
      obtain ⟨c, hc, hce⟩ := hrr.2 j y hy
      refine ⟨c, RP_stay (fun _ h => h) hst2 hc, ?_⟩
      rw [hce, Nat.mul_one]
      apply List.ext_getElem?
      intro q
      by_cases hq : q < 1
      ·rw [List.getElem?_take_of_lt hq, List.getElem?_take_of_lt hq, List.getElem?_drop, List.getElem?_drop, List.getElem?_append_left (by rw [List.length_take, hxl]; omega), List.getElem?_take_of_lt (by omega)]
      ·rw [List.getElem?_eq_none (by rw [List.length_take]; omega), List.getElem?_eq_none (by rw [List.length_take]; omega)]
     ·have hjl : j < L.length := by
       have := (List.getElem?_eq_some_iff.1 hy).1
       rw [hML] at this
       exact this
      rw [List.getElem?_append_right (by rw [List.length_take]; omega), List.length_take, List.getElem?_replicate] at hy
      split at hy
      ·cases hy
       refine ⟨z, hzR, ?_⟩
       rw [hz1]
       apply List.ext_getElem?
       intro q
       by_cases hq : q < 1
       ·have hq0 : q = 0 := by omega
        subst hq0
        rw [List.getElem?_take_of_lt hq, List.getElem?_drop, List.getElem?_append_right (by rw [List.length_take, hxl]; omega), List.getElem?_replicate, if_pos (by rw [List.length_take, hxl]; omega)]
        rfl
       ·rw [List.getElem?_eq_none (by simp; omega), List.getElem?_eq_none (by rw [List.length_take]; omega)]
      ·cases hy
   ·exact hvc.elim
  ·exact hvc.elim
 ·exact hvc.elim
end
end Go.Vc
namespace Go.Vc
open Go Go.RowKit
section
variable {C : Cx} {n : Nat} {F : Fm} {ok0 : Nat → Prop} {w0 : World} {ok : Nat → Prop} {β : Nat → Value} {s : S} {a : Act} {w : World} {own : Nat → Bool} {o : Oper} {k : U → Prop} {K : Act → World → Prop} {Q : Exit → Act → World → Prop}
theorem made_get {z : Array Value} {m i j : Nat} (hz : 0 < z.size) (hi : i < m) (hj : j < z.size) : (madeCells z (m * z.size)).toList[i * z.size + j]? = z.toList[j]? := by
 have hlt : i * z.size + j < m * z.size := by
  have : i * z.size + z.size ≤ m * z.size := by
   rw [← Nat.succ_mul]
   exact Nat.mul_le_mul_right _ hi
  omega
 have hmod : (i * z.size + j) % z.size = j := by
  rw [Nat.add_comm, Nat.add_mul_mod_self_right]
  exact Nat.mod_eq_of_lt hj
 simp only [madeCells, Array.toList_map, Array.toList_range, List.getElem?_map, List.getElem?_range hlt, Option.map_some, hmod]
 simp [hj]
theorem RRow_made {z : Value} {y : PV} {m : Nat} (hpos : 0 < z.cells.size) (hz : RP ok w y z) : RRow ok w z.cells.size (List.replicate m y) (madeCells z.cells (m * z.cells.size)).toList := by
 refine ⟨by simp [size_madeCells], fun i x hx => ?_⟩
 rw [List.getElem?_replicate] at hx
 split at hx
 ·rename_i hi
  simp only [Option.some.injEq] at hx
  subst hx
  refine ⟨z, hz, ?_⟩
  have hle : i * z.cells.size + z.cells.size ≤ m * z.cells.size := by
   rw [← Nat.succ_mul]
   exact Nat.mul_le_mul_right _ hi
  apply List.ext_getElem?
  intro j
  by_cases hj : j < z.cells.size
  ·rw [List.getElem?_take_of_lt hj, List.getElem?_drop, made_get hpos hi hj]
  ·rw [List.getElem?_eq_none (by simp; omega), List.getElem?_eq_none (by rw [List.length_take]; omega)]
 ·cases hx
theorem op_makeSlice (hC : CxOk C) {t : TypeId} {x y : Operand} (ho : o.op = .makeSlice t x y) (h : StO C n F ok0 w0 ok β s a w) (hd : ∀ d, o.dst = some d → d < n) (hvc : VC C own o s.ev s.η k)
  (hK : ∀ u a' w', k u → St C n F ok0 w0 (s.app o.dst u) a' w' → K a' w') : o.wp C.P a w K Q := by
 simp only [VC, ho] at hvc
 split at hvc
 ·rename_i d ti ed eT
  split at hvc
  ·rename_i j1 p j2 q te ex ey eE eη
   obtain ⟨rfl, h0, hk, hpos, hle, hby, hsh, hvc⟩ := hvc
   obtain ⟨m, rfl⟩ : ∃ m : Nat, p = m := ⟨p.toNat, by omega⟩
   simp only [Int.toNat_natCast] at hle hby hvc
   obtain ⟨i, dd, z, g1, g2, g3, g4, g5, g6, g7, _⟩ := (hC.ty _ _ eE).out
   have hz : R ok β w (.p te.zero) z := by rw [← g6]; exact cv_R z
   rw [R] at hz
   have e1 := ev_int h ex
   have e2 := ev_int h ey
   have hm : m ≤ maxLen := by
    simp only [maxLen]
    have : m * 1 ≤ m * te.sz := Nat.mul_le_mul_left _ hpos
    omega
   have hrun := run_make (P := C.P) w t ti.elem i z ((hC.ty _ _ eT).slice hk) g1 g5 j1 j2 m m (by omega) (Int.le_refl _) (by rw [g4]; omega) (by simp [maxLen] at hm; omega)
   simp only [Int.toNat_natCast, g3] at hrun
   have hrow := World.ownsRow_lit (base := 0) (e := ti.elem) (size := te.sz) w (madeCells z.cells (m * te.sz)) m (Nat.zero_le _) hm (size_madeCells _ _)
   have hb : Below w.heap.size w (w.alloc (.cells (madeCells z.cells (m * te.sz)) ti.elem)) := (Below.refl _ _).alloc (Nat.le_refl _) _
   have hst : Stay ok w (w.alloc (.cells (madeCells z.cells (m * te.sz)) ti.elem)) := fun b _ hlt => hb.block b hlt
   have hrr : RRow ok (w.alloc (.cells (madeCells z.cells (m * te.sz)) ti.elem)) te.sz (List.replicate m te.zero) (madeCells z.cells (m * te.sz)).toList := by
    refine RRow_stay (fun _ h => h) hst ?_
    have := RRow_made (m := m) (by omega) hz
    rwa [g7] at this
   have h1 := h.world hC (ok' := ok) (below_w h.below hb) hb.size (fun b hlt _ => hb.block b hlt) (fun _ h => h) (fun _ h => .inl h)
   refine wp_value (v := .slice (some ⟨w.heap.size, 0, none⟩) m m) (w' := w.alloc (.cells (madeCells z.cells (m * te.sz)) ti.elem)) (by simp [execOp, ho, e1, e2, hrun]) (hK _ _ _ hvc ?_)
   rw [ed]
   refine ⟨ok, _, h1.addrow (hd d ed) (Nat.lt_of_lt_of_le (hd d ed) h.n2) eη hpos (by simpa using hrow) hrr fun b hb' => ?_⟩
   have : b = w.heap.size := by simpa [Value.ownBlock] using hb'.symm
   subst this
   exact ⟨fun hc => by have := h.lt _ hc; omega, .inr h.below.size, fun κ hl hbk => by have := OB_lt (h.η κ) hl hbk; omega⟩
  ·exact hvc.elim
 ·exact hvc.elim
theorem RRow_drop {sz m : Nat} {L : List PV} {xs : List Value} (h : RRow ok w sz L xs) (hm : m ≤ L.length) : RRow ok w sz (L.drop m) (xs.drop (m * sz)) := by
 refine ⟨by rw [List.length_drop, List.length_drop, h.1, Nat.sub_mul], fun i x hx => ?_⟩
 rw [List.getElem?_drop] at hx
 obtain ⟨c, h1, h2⟩ := h.2 (m + i) x hx
 refine ⟨c, h1, ?_⟩
 rw [h2, List.drop_drop, Nat.add_mul]
theorem run_copy_all {P : Program} (w : World) (dT sT ty elem : TypeId) (g dLen dCap : Nat) (a : Addr) (sCap sz : Nat) (cur : Array Value) (t : TypeId) (cs : List Value)
  (hu : P.underlying dT = some (.slice elem)) (hs : (P.info? elem).map (·.size) = some sz)
  (hg : w.heap[g]? = some (.cells cur t (0, 0))) (hn : cs.length = dLen * sz)
  (hsrc : ∀ j v, cs[j]? = some v → w.cell? (a.add j) = some v) (hfit : cs.length ≤ cur.size) (h1 : ∀ v ∈ cs, v.oneCell' = true) :
  (Builtin.copy_ #[dT, sT] ty #[.slice (some ⟨g, 0, none⟩) dLen dCap, .slice (some a) dLen sCap]).run P w =
   .ok (goInt dLen) (w.setRow g (cs ++ cur.toList.drop cs.length).toArray) := by
 have hl := run_loadCells_list (P := P) w a cs hsrc
 have hst := run_storeCells_at P g 0 t cs 0 cur w hg (by simpa using hfit) h1
 cases hq : P.info? elem with
 | none => simp [hq] at hs
 | some i =>
  have hi : i.size = sz := by simpa [hq] using hs
  rw [hn] at hl
  simp [Builtin.copy_, run_underlying hu, Builtin.lenOf, Builtin.firstCells, sizeOf, typeInfo, hq, hi, hl, hst]
theorem run_copy_zero {P : Program} (w : World) (dT sT ty elem : TypeId) (d : Option Addr) (dCap sz : Nat) (s : Option Addr) (sCap : Nat)
  (hu : P.underlying dT = some (.slice elem)) (hs : (P.info? elem).map (·.size) = some sz) :
  (Builtin.copy_ #[dT, sT] ty #[.slice d 0 dCap, .slice s 0 sCap]).run P w = .ok (goInt 0) w := by
 cases hq : P.info? elem with
 | none => simp [hq] at hs
 | some i => cases d <;> cases s <;> simp [Builtin.copy_, run_underlying hu, Builtin.lenOf, Builtin.firstCells, sizeOf, typeInfo, hq, loadCells, loadCellsFrom, storeCells]
theorem op_copyRow (hC : CxOk C) {c : Call} (ho : o.op = .call c) (hb : c.callee = .builtin .copy) (h : StO C n F ok0 w0 ok β s a w) (hd : ∀ d, o.dst = some d → d < n) (hvc : cpVC C s.ev c.args.toList c.argTypes.toList s.η k)
  (hK : ∀ u a' w', k u → St C n F ok0 w0 (s.app o.dst u) a' w' → K a' w') : o.wp C.P a w K Q := by
 obtain ⟨callee, args, argTypes⟩ := c
 subst hb
 unfold cpVC at hvc
 split at hvc
 ·rename_i x y t t' eA eTy
  have hargs : args = #[x, y] := by apply Array.ext'; simpa using eA
  have htys : argTypes = #[t, t'] := by apply Array.ext'; simpa using eTy
  subst hargs htys
  split at hvc
  ·rename_i ti κ q eT ex ey
   split at hvc
   ·rename_i e sz L e' sz' M te eη eηq eE
    obtain ⟨hk, rfl, rfl, rfl, hlen, hbig, hvc⟩ := hvc
    have hrx := ev_R h x
    have hry := ev_R h y
    rw [ex, R] at hrx
    rw [ey, R] at hry
    have hob := h.η κ
    rw [eη] at hob
    obtain ⟨hp0, ⟨xs, hrow, hrr⟩, hnok⟩ := hob
    have hobq := h.η q
    rw [eηq] at hobq
    obtain ⟨_, ⟨ys, hyrow, hyrr⟩, _⟩ := hobq
    obtain ⟨i, dd, z, g1, g2, g3, _⟩ := (hC.ty _ _ eE).out
    have hsl := (hC.ty _ _ eT).slice hk
    have hinf : (C.P.info? ti.elem).map (·.size) = some te.sz := by rw [g1]; simp [g3]
    have hmine : (s.η κ).mine = true := by rw [eη]; rfl
    have hylen : ys.length = M.length * te.sz := hyrr.1
    have fin : ∀ w' : World, (Builtin.copy_ #[t, t'] o.type #[β κ, β q]).run C.P w = .ok (goInt M.length) w' → StO C n F ok0 w0 ok β (s.set κ (.row ti.elem te.sz M)) a w' → o.wp C.P a w K Q := by
     intro w' hrun hst2
     have hlive : ∀ κ' ∈ (SV.p (.int .i64 (M.length : Int))).keys, ((s.set κ (.row ti.elem te.sz M)).η κ').live = true := by intro κ' hκ'; cases hκ'
     refine wp_value (v := .int .i64 (M.length : Int)) (w' := w') ?_ (hK _ _ _ hvc ?_)
     ·simp [execOp, ho, resolve, invoke, builtin, hrx.1, hry.1, hrun, goInt]
     ·show St C n F ok0 w0 (s.app o.dst { x := .p (.int .i64 M.length), st := some (κ, .row ti.elem te.sz M) }) (a.put o.dst (.int .i64 (M.length : Int))) w'
      cases ed : o.dst with
      | none => exact ⟨_, _, hst2⟩
      | some d => exact ⟨_, _, hst2.put (hd d ed) (x := .p (.int .i64 M.length)) (by rw [R, RP]) hlive⟩
    by_cases h0 : M.length = 0
    ·have hM : M = [] := List.eq_nil_of_length_eq_zero h0
     have hL : L = [] := List.eq_nil_of_length_eq_zero (by omega)
     subst hM hL
     have hself : s.set κ (.row ti.elem te.sz []) = s := by
      obtain ⟨ρ, η⟩ := s
      show S.mk ρ _ = S.mk ρ η
      congr 1
      funext t2
      show cond (Nat.beq t2 κ) _ (η t2) = η t2
      rw [beq_ite]
      split
      ·rename_i e2; rw [e2]; exact eη.symm
      ·rfl
     refine fin w ?_ (by rw [hself]; exact h)
     have sl : ∀ {v : Value} {t : TypeId} {l : List Value}, w.ownsRow 0 t te.sz v (List.length ([] : List PV)) l → ∃ A c, v = .slice A 0 c := by
      intro v t l hr
      rcases hr.2 with ⟨rfl, _⟩ | ⟨g, cap, cur, rfl, _⟩
      ·exact ⟨none, 0, rfl⟩
      ·exact ⟨_, _, rfl⟩
     obtain ⟨A, c1, e1⟩ := sl hrow
     obtain ⟨B, c2, e2⟩ := sl hyrow
     rw [e1, e2]
     exact run_copy_zero w t t' o.type ti.elem A c1 te.sz B c2 hsl hinf
    ·obtain ⟨g, cap2, cur, hβ, hg, hheap, c1, c2, c3, c4⟩ : ∃ g cap cur, β κ = .slice (some ⟨g, 0, none⟩) L.length cap ∧ 0 ≤ g ∧ w.heap[g]? = some (.cells cur ti.elem (0, 0)) ∧ L.length ≤ cap ∧ cap ≤ maxLen ∧ cur.size = cap * te.sz ∧ cur.toList.take (L.length * te.sz) = xs := by
      rcases hrow.2 with ⟨_, q⟩ | ⟨g, cap, cur, q⟩
      ·omega
      ·exact ⟨g, cap, cur, q⟩
     obtain ⟨g', cap', hβq⟩ : ∃ g cap, β q = .slice (some ⟨g, 0, none⟩) M.length cap := by
      rcases hyrow.2 with ⟨_, q⟩ | ⟨g, cap, cur, q, _⟩
      ·exact absurd q h0
      ·exact ⟨g, cap, q⟩
     have hcell := hyrow.cells (g := g') (by rw [hβq]; rfl)
     have hfit : ys.length ≤ cur.size := by rw [hylen, c3, ← hlen]; exact Nat.mul_le_mul_right _ c1
     have hrun := run_copy_all (P := C.P) w t t' o.type ti.elem g M.length cap2 ⟨g', 0, none⟩ cap' te.sz cur ti.elem ys hsl hinf hheap hylen hcell hfit (RRow_one hyrr)
     obtain ⟨vs', hvs'⟩ : ∃ vs', vs' = ys ++ cur.toList.drop ys.length := ⟨_, rfl⟩
     rw [← hvs'] at hrun
     have hbk : blockOf (β κ) = some g := by rw [hβ]; rfl
     have hng : ¬ ok g := (hnok g (by rw [hβ]; rfl)).1
     have hsame : ∀ b2, b2 ≠ g → (w.setRow g vs'.toArray).heap[b2]? = w.heap[b2]? := fun b2 hb2 => setRow_same _ _ _ hb2
     have hst : Stay ok w (w.setRow g vs'.toArray) := fun b2 hb2 _ => hsame b2 fun e2 => hng (by rw [← e2]; exact hb2)
     have hst2 := h.reobj hC (o' := .row ti.elem te.sz M) hmine rfl hbk hsame (setRow_size _ _ _) ⟨rfl, rfl, rfl⟩ ⟨hp0, ⟨ys, ⟨by rw [hylen], .inr ⟨g, cap2, vs'.toArray, by rw [hβ, hlen], hg, setRow_at hheap _, by rw [← hlen]; exact c1, c2, ?_, ?_⟩⟩, RRow_stay (fun _ h => h) hst hyrr⟩, hnok⟩ (by intro κ' hκ'; cases hκ')
     ·refine fin _ ?_ hst2
      rw [hβ, hβq, hlen]
      exact hrun
     ·have : cur.toList.length = cap2 * te.sz := by simpa using c3
      rw [List.size_toArray, hvs', List.length_append, List.length_drop, this]
      have h3 : ys.length ≤ cap2 * te.sz := by rw [← c3]; exact hfit
      omega
     ·show vs'.take _ = ys
      rw [hvs', ← hylen, List.take_append_of_le_length (Nat.le_refl _), List.take_length]
   ·exact hvc.elim
  ·exact hvc.elim
 ·exact hvc.elim
theorem op_copy (hC : CxOk C) {c : Call} (ho : o.op = .call c) (hb : c.callee = .builtin .copy) (h : StO C n F ok0 w0 ok β s a w) (hd : ∀ d, o.dst = some d → d < n) (hvc : VC C own o s.ev s.η k)
  (hK : ∀ u a' w', k u → St C n F ok0 w0 (s.app o.dst u) a' w' → K a' w') : o.wp C.P a w K Q := by
 cases hcp : cpB own o.dst with
 | true =>
  refine op_copyRow hC ho hb h hd ?_ hK
  obtain ⟨callee, args, argTypes⟩ := c
  subst hb
  simp only [VC, ho, hcp, cond_true] at hvc
  exact hvc
 | false =>
 obtain ⟨callee, args, argTypes⟩ := c
 subst hb
 simp only [VC, ho, hcp, cond_false] at hvc
 split at hvc
 ·rename_i x y t t' eA eTy
  have hargs : args = #[x, y] := by apply Array.ext'; simpa using eA
  have htys : argTypes = #[t, t'] := by apply Array.ext'; simpa using eTy
  subst hargs htys
  split at hvc
  ·rename_i ti κ M eT ex eM
   split at hvc
   ·rename_i e sz L te eη eE
    obtain ⟨hk, rfl, rfl, hsz1, hagg, hall, hpos, hle, hvc⟩ := hvc
    have hry := ev_R h y
    have hrx := ev_R h x
    rw [ex, R] at hrx
    have hview : ∃ A cap, a.eval y = .slice A M.length cap ∧ ∃ sz, RPE ok w sz M A 0 := by
     cases hM : s.ev y with
     | p x =>
      rw [hM] at eM hry
      cases x with
      | lst L' =>
       simp only [lstOf, Option.some.injEq] at eM
       subst eM
       rw [R, RP] at hry
       obtain ⟨A, cap, sz, q1, _, _, q4⟩ := hry
       exact ⟨A, cap, q1, sz, q4⟩
      | nilS =>
       simp only [lstOf, Option.some.injEq] at eM
       subst eM
       simp at hpos
      | _ => simp [lstOf] at eM
     | _ => rw [hM] at eM; simp [lstOf] at eM
    obtain ⟨A, cap, ey, sz', hE⟩ := hview
    obtain ⟨vs, q1, q2, q3⟩ := RPE_vals hE
    obtain ⟨ad, rfl⟩ : ∃ ad, A = some ad := by
     cases M with
     | nil => simp at hpos
     | cons m M =>
      obtain ⟨⟨ad, c, q, _⟩, _⟩ := hE
      exact ⟨ad, q⟩
    have hsizes := allSz_sizes hall q1
    simp only [hsz1] at hsizes
    have hlen := RPL_length q1
    have hfl := flat_length hsizes
    have hsz' : sz' = 1 := by
     cases vs with
     | nil => simp at hlen; omega
     | cons v vs => rw [← q2 v (List.mem_cons_self ..), hsizes v (List.mem_cons_self ..)]
    subst hsz'
    have hob := h.η κ
    rw [eη] at hob
    obtain ⟨hp0, ⟨xs, hrow, hrr⟩, hnok⟩ := hob
    obtain ⟨g, cap2, cur, hβ, hg, hheap, c1, c2, c3, c4⟩ : ∃ g cap cur, β κ = .slice (some ⟨g, 0, none⟩) L.length cap ∧ 0 ≤ g ∧ w.heap[g]? = some (.cells cur ti.elem (0, 0)) ∧ L.length ≤ cap ∧ cap ≤ maxLen ∧ cur.size = cap * 1 ∧ cur.toList.take (L.length * 1) = xs := by
     rcases hrow.2 with ⟨_, q⟩ | ⟨g, cap, cur, q⟩
     ·omega
     ·exact ⟨g, cap, cur, q⟩
    have hmin : (flat vs).length = Nat.min M.length L.length := by
     rw [hfl, hlen, Nat.mul_one]
     exact (Nat.min_eq_left hle).symm
    have hfl' : (flat vs).length = M.length := by rw [hfl, hlen, Nat.mul_one]
    obtain ⟨i, dd, z, g1, g2, g3, _⟩ := (hC.ty _ _ eE).out
    have hrun := run_copy_row (P := C.P) w t t' o.type ti.elem g 0 L.length cap2 ad M.length cap cur ti.elem (flat vs) ((hC.ty _ _ eT).slice hk) (by rw [g1]; simp [g3, hsz1]) hheap hmin (fun j v hj => by
     have := q3 ad rfl j v hj
     simpa using this) (by rw [hfl']; omega) (flat_one q1)
    simp only [List.take_zero, List.nil_append, Nat.zero_add] at hrun
    obtain ⟨vs', hvs'⟩ : ∃ vs', vs' = flat vs ++ cur.toList.drop (flat vs).length := ⟨_, rfl⟩
    rw [← hvs'] at hrun
    obtain ⟨w', hw'⟩ : ∃ w', w' = w.setRow g vs'.toArray := ⟨_, rfl⟩
    rw [← hw'] at hrun
    have hbk : blockOf (β κ) = some g := by rw [hβ]; rfl
    have hng : ¬ ok g := (hnok g (by rw [hβ]; rfl)).1
    have hmine : (s.η κ).mine = true := by rw [eη]; rfl
    have hsame : ∀ b2, b2 ≠ g → w'.heap[b2]? = w.heap[b2]? := fun b2 hb2 => by rw [hw']; exact setRow_same _ _ _ hb2
    have hst : Stay ok w w' := fun b2 hb2 _ => hsame b2 fun e2 => hng (by rw [← e2]; exact hb2)
    have hML : (M ++ L.drop M.length).length = L.length := by rw [List.length_append, List.length_drop]; omega
    have hxl : xs.length = L.length := by rw [hrr.1, Nat.mul_one]
    have hcl : cur.toList.length = cap2 := by simpa using c3
    have htake : vs'.take (L.length * 1) = flat vs ++ xs.drop M.length := by
     rw [hvs', Nat.mul_one, List.take_append, List.take_of_length_le (by omega), ← c4, hfl', Nat.mul_one, List.take_drop, show M.length + (L.length - M.length) = L.length by omega]
    have hst2 := h.reobj hC (o' := .row ti.elem 1 (M ++ L.drop M.length)) hmine rfl hbk hsame (by rw [hw']; exact setRow_size _ _ _) (by rw [hw']; exact ⟨rfl, rfl, rfl⟩) ⟨hp0, ⟨flat vs ++ xs.drop M.length, ⟨by rw [hML, List.length_append, List.length_drop, hxl, hfl']; omega, .inr ⟨g, cap2, vs'.toArray, by rw [hβ, hML], hg, by rw [hw']; exact setRow_at hheap _, by rw [hML]; exact c1, c2, ?_, by rw [hML]; simpa using htake⟩⟩, ?_⟩, hnok⟩ (by intro κ' hκ'; cases hκ')
    ·have hlive : ∀ κ' ∈ (SV.p (.int .i64 (M.length : Int))).keys, ((s.set κ (.row ti.elem 1 (M ++ L.drop M.length))).η κ').live = true := by intro κ' hκ'; cases hκ'
     refine wp_value (v := .int .i64 (M.length : Int)) (w' := w') ?_ (hK _ _ _ hvc ?_)
     ·rw [hfl'] at hrun
      simp [execOp, ho, resolve, invoke, builtin, hrx.1, hβ, ey, hrun, goInt]
     ·show St C n F ok0 w0 (s.app o.dst { x := .p (.int .i64 M.length), st := some (κ, .row ti.elem 1 (M ++ L.drop M.length)) }) (a.put o.dst (.int .i64 (M.length : Int))) w'
      cases ed : o.dst with
      | none => exact ⟨_, _, hst2⟩
      | some d => exact ⟨_, _, hst2.put (hd d ed) (x := .p (.int .i64 M.length)) (by rw [R, RP]) hlive⟩
    ·rw [List.size_toArray, hvs', List.length_append, List.length_drop, hcl, hfl']; omega
    ·refine RRow_append (RRow_stay (fun _ h => h) hst (RRow_flat q1 hsizes)) ?_
     have := RRow_drop (RRow_stay (fun _ h => h) hst hrr) hle
     simpa using this
   ·exact hvc.elim
  ·exact hvc.elim
 ·exact hvc.elim
theorem StO.newobj (hC : CxOk C) (h : StO C n F ok0 w0 ok β s a w) {d : Nat} (hd : d < n) (eη : s.η d = .no) (o' : AO) (ob : Obj) (hm : o'.mine = true) (hk : o'.keys = [])
  (hob : ∀ β' : Nat → Value, β' d = .pointer (some ⟨w.heap.size, 0, none⟩) → (w.alloc ob).heap[w.heap.size]? = some ob → OB C ok β' (w.alloc ob) (may F w0) d o') :
  StO C n F ok0 w0 ok (fun κ => if κ = d then .pointer (some ⟨w.heap.size, 0, none⟩) else β κ) ((s.set d o').put d (.ptr d 0)) (a.put (some d) (.pointer (some ⟨w.heap.size, 0, none⟩))) (w.alloc ob) := by
 have hb : Below w.heap.size w (w.alloc ob) := (Below.refl _ _).alloc (Nat.le_refl _) _
 have h1 := h.world hC (ok' := ok) (below_w h.below hb) hb.size (fun b hlt _ => hb.block b hlt) (fun _ h => h) (fun _ h => .inl h)
 have hnew : ∀ κ, (s.η κ).live = true → blockOf (β κ) ≠ some w.heap.size := fun κ hl hbk => by have := OB_lt (h.η κ) hl hbk; omega
 have hkd2 : ∀ κ, (s.η κ).live = true → κ ≠ d := by
  rintro κ hl rfl
  rw [eη] at hl
  cases hl
 refine { h1 with
  defers := h1.defers
  size := by simp [Act.put, h1.size]
  ρ := ?_
  η := ?_
  ro := ?_
  dis := ?_
  wf := ?_
  pin := fun κ hκ => by show (if κ = d then _ else β κ) = _; have := Nat.lt_of_lt_of_le hd h.n2; rw [if_neg (by omega)]; exact h.pin κ hκ }
 ·intro t'
  rw [S.put_ρ, eval_put (by rw [h1.size]; exact hd)]
  by_cases e : t' = d
  ·rw [if_pos e, if_pos e, R]
   exact ⟨w.heap.size, if_pos rfl, rfl⟩
  ·rw [if_neg e, if_neg e]
   exact R_keys (fun κ hκ => if_neg (hkd2 κ (h.wf.ρ t' κ hκ))) (h1.ρ t')
 ·intro κ
  show OB C ok _ _ _ κ ((s.set d _).η κ)
  rw [S.set_η]
  by_cases e : κ = d
  ·rw [if_pos e]
   subst e
   exact hob _ (if_pos rfl) (MapKept.heap_alloc w _).1
  ·rw [if_neg e]
   exact OB_move (h1.η κ) (fun _ => if_neg e) (fun κ' hκ' => if_neg (hkd2 κ' (h.wf.η κ κ' hκ'))) (fun _ h => h) (Stay.refl _ _) (fun b _ _ hlt => rfl) (fun b _ _ _ hn => hn)
 ·intro κ t' x b hη hbk
  change (s.set d _).η κ = _ at hη
  rw [S.set_η] at hη
  by_cases e : κ = d
  ·rw [if_pos e] at hη; subst hη; cases hm
  ·rw [if_neg e] at hη
   rw [if_neg e] at hbk
   exact h1.ro κ t' x b hη hbk
 ·intro κ κ' b hm hm' hbk hbk'
  change ((s.set d _).η κ).mine = true at hm
  change ((s.set d _).η κ').mine = true at hm'
  rw [S.set_η] at hm hm'
  by_cases e : κ = d <;> by_cases e' : κ' = d
  ·rw [e, e']
  ·rw [if_pos e] at hbk
   rw [if_neg e'] at hbk' hm'
   have : b = w.heap.size := by simpa [blockOf] using hbk.symm
   rw [this] at hbk'
   exact absurd hbk' (hnew κ' (mine_live hm'))
  ·rw [if_pos e'] at hbk'
   rw [if_neg e] at hbk hm
   have : b = w.heap.size := by simpa [blockOf] using hbk'.symm
   rw [this] at hbk
   exact absurd hbk (hnew κ (mine_live hm))
  ·rw [if_neg e] at hbk hm
   rw [if_neg e'] at hbk' hm'
   exact h1.dis κ κ' b hm hm' hbk hbk'
 ·have hl : ∀ κ, (s.η κ).live = true → ((s.set d o').η κ).live = true := by
   intro κ hκ
   rw [S.set_η, if_neg (hkd2 κ hκ)]
   exact hκ
  refine WF.put ⟨fun t' κ hκ => hl κ (h.wf.ρ t' κ hκ), fun t' κ hκ => ?_⟩ ?_
  ·rw [S.set_η] at hκ
   split at hκ
   ·rw [hk] at hκ; cases hκ
   ·exact hl κ (h.wf.η t' κ hκ)
  ·intro κ hκ
   simp [SV.keys] at hκ
   subst hκ
   rw [S.set_η, if_pos rfl]
   exact mine_live hm
theorem MK.pv_R {key : MK} : RP ok w key.pv key.val := by
 cases key <;> (simp only [MK.pv, MK.val]; rw [RP])
theorem op_range (hC : CxOk C) {t : TypeId} {x : Operand} (ho : o.op = .range t x) (h : StO C n F ok0 w0 ok β s a w) (hd : ∀ d, o.dst = some d → d < n) (hvc : VC C own o s.ev s.η k)
  (hK : ∀ u a' w', k u → St C n F ok0 w0 (s.app o.dst u) a' w' → K a' w') : o.wp C.P a w K Q := by
 simp only [VC, ho] at hvc
 split at hvc
 ·rename_i d ti l ed eT ex
  split at hvc
  ·rename_i eη
   obtain ⟨hk, hvc⟩ := hvc
   have e1 := ev_str h ex
   have hrun := run_range_string (P := C.P) w t ⟨l.toArray⟩ ((hC.ty _ _ eT).string hk)
   refine wp_value (v := .pointer (some ⟨w.heap.size, 0, none⟩)) (w' := w.alloc (.stringIter ⟨l.toArray⟩ 0)) (by simp [execOp, ho, e1, hrun, World.iter]) (hK _ _ _ hvc ?_)
   rw [ed]
   exact ⟨ok, _, h.newobj hC (hd d ed) eη (.it l 0) (.stringIter ⟨l.toArray⟩ 0) rfl rfl fun β' hβ hh => ⟨w.heap.size, hβ, hh, fun hc => by have := h.lt _ hc; omega, .inr h.below.size⟩⟩
  ·exact hvc.elim
 ·rename_i d ti κ ed eT ex
  split at hvc
  ·rename_i t' sk L eη eηd
   obtain ⟨rfl, hk, hvc⟩ := hvc
   obtain ⟨kt, hut, huk⟩ := (hC.ty _ _ eT).map hk
   have hob := h.η κ
   rw [eη] at hob
   obtain ⟨rb, es, clock, q1, q2, q3, q4, q5, q6, q7, q8⟩ := hob
   have hrx := ev_R h x
   rw [ex, R, q1] at hrx
   have hlen : (es.toList.map (·.born)).length = L.length := by
    have := congrArg List.length q5
    simpa using this
   have hvc := hvc rb (es.toList.map (·.born)) clock hlen q8.1 (fun b hb => by
    obtain ⟨e, he, rfl⟩ := List.mem_map.1 hb
    exact q8.2 e he)
   have hrun := Go.run_range_map w t' kt ti.elem rb es clock hut q2
   have h1 := h.reobj hC (κ := κ) (b := rb) (o' := .ms t' sk L (es.toList.map (·.born)) clock rb) (w' := w) (by rw [eη]; rfl) rfl (by rw [q1]; rfl) (fun _ _ => rfl) rfl ⟨rfl, rfl, rfl⟩ ⟨es, q1, q2, q3, q4, q5, q6, q7, rfl⟩ (by intro κ' hκ'; cases hκ')
   have hdκ : d ≠ κ := by rintro rfl; rw [eη] at eηd; cases eηd
   refine wp_value (v := .pointer (some ⟨w.heap.size, 0, none⟩)) (w' := w.alloc (.mapIter (some rb) clock #[] clock)) (by simp [execOp, ho, hrx.1, hrun]) (hK _ _ _ hvc ?_)
   rw [ed]
   exact ⟨ok, _, h1.newobj hC (hd d ed) (by rw [S.set_η, if_neg hdκ]; exact eηd) (.mi κ rb clock [] clock) (.mapIter (some rb) clock #[] clock) rfl rfl fun β' hβ hh => ⟨w.heap.size, hβ, hh, fun hc => by have := h.lt _ hc; omega, .inr h.below.size⟩⟩
  ·exact hvc.elim
 ·exact hvc.elim
theorem op_next (hC : CxOk C) {x : Operand} {str : Bool} (ho : o.op = .next x str) (h : StO C n F ok0 w0 ok β s a w) (hd : ∀ d, o.dst = some d → d < n) (hvc : VC C own o s.ev s.η k)
  (hK : ∀ u a' w', k u → St C n F ok0 w0 (s.app o.dst u) a' w' → K a' w') : o.wp C.P a w K Q := by
 simp only [VC, ho] at hvc
 split at hvc
 ·rename_i κ ex
  split at hvc
  ·rename_i l pos eη
   obtain ⟨b, hb, hvc⟩ := hvc
   have hob := h.η κ
   rw [eη] at hob
   obtain ⟨r, q1, q2, q3, q4⟩ := hob
   have hr := ev_R h x
   rw [ex, R] at hr
   obtain ⟨r', e1, e2⟩ := hr
   have : r' = r := by rw [q1] at e1; simpa using e1.symm
   subst this
   have hsize : (ByteArray.mk l.toArray).size = l.length := by simp [ByteArray.size]
   cases b with
   | false =>
    have hlt : ¬ pos < (ByteArray.mk l.toArray).size := by rw [hsize]; simpa using hb
    refine wp_read h hd hK (x := .tupS [.p (.bool false)]) (v := .tuple #[.bool false]) ?_ hvc ?_ (by intro κ' hκ'; simp [SV.keys, SV.keysL] at hκ')
    ·simp only [execOp, ho, e2, Instr.next, getObj, Sem.run_bind, Sem.run, q2, Result.andThen, if_neg hlt, Sem.run_pure]
    ·rw [R]
     exact ⟨[.bool false], rfl, by rw [R, RP], trivial⟩
   | true =>
    have hlt : pos < (ByteArray.mk l.toArray).size := by rw [hsize]; simpa using hb
    obtain ⟨c, wd, hdec, hvc⟩ := hvc
    obtain ⟨w', hw'⟩ : ∃ w' : World, w' = { w with heap := w.heap.setIfInBounds r' (.stringIter ⟨l.toArray⟩ (pos + wd)) } := ⟨_, rfl⟩
    have hrl : r' < w.heap.size := (Array.getElem?_eq_some_iff.1 q2).1
    have hsame : ∀ b, b ≠ r' → w'.heap[b]? = w.heap[b]? := fun b hb => by rw [hw']; exact setHeap_same w r' _ hb
    have hrun : (execOp a.eval o).run C.P w = .ok (.value (.tuple #[.bool true, .int .i64 pos, .int .i32 c])) w' := by
     rw [hw']
     simp only [execOp, ho, e2, Instr.next, getObj, setObj, Sem.run_bind, Sem.run, q2, Result.andThen, if_pos hlt, hdec, Sem.run_pure, goInt]
    have hmine : (s.η κ).mine = true := by rw [eη]; rfl
    have hst2 := h.reobj hC (o' := .it l (pos + wd)) hmine rfl (b := r') (by rw [q1]; rfl) hsame (by rw [hw']; simp) (by rw [hw']; exact ⟨rfl, rfl, rfl⟩) ⟨r', q1, by rw [hw']; simp [hrl], q3, q4⟩ (by intro κ' hκ'; cases hκ')
    refine wp_value hrun (hK _ _ _ hvc ?_)
    have hR : R ok β w' (.tupS [.p (.bool true), .p (.int .i64 pos), .p (.int .i32 c)]) (.tuple #[.bool true, .int .i64 pos, .int .i32 c]) := by
     rw [R]
     exact ⟨[.bool true, .int .i64 pos, .int .i32 c], rfl, by rw [R, RP], by rw [R, RP], by rw [R, RP], trivial⟩
    show St C n F ok0 w0 (s.app o.dst { x := .tupS [.p (.bool true), .p (.int .i64 pos), .p (.int .i32 c)], st := some (κ, .it l (pos + wd)) }) (a.put o.dst _) w'
    cases ed : o.dst with
    | none => exact ⟨_, _, hst2⟩
    | some d => exact ⟨_, _, hst2.put (hd d ed) hR (by intro κ' hκ'; simp [SV.keys, SV.keysL] at hκ')⟩
  ·exact hvc.elim
 ·rename_i κ ex
  split at hvc
  ·rename_i κm m since seen last eη
   split at hvc
   ·rename_i t sk L B c m' eηm
    obtain ⟨rfl, hnd, hlts, hsl, hsc, hover, hstep⟩ := hvc
    have hob := h.η κ
    rw [eη] at hob
    obtain ⟨r, q1, q2, q3, q4⟩ := hob
    have hobm := h.η κm
    rw [eηm] at hobm
    obtain ⟨es, p1, p2, p3, p4, p5, p6, p7, p8⟩ := hobm
    have hr := ev_R h x
    rw [ex, R] at hr
    obtain ⟨r', e1, e2⟩ := hr
    have : r' = r := by rw [q1] at e1; simpa using e1.symm
    subst this
    have hborn : ∀ e ∈ es.toList, e.born ∈ B := fun e he => by rw [← p8]; exact List.mem_map.2 ⟨e, he, rfl⟩
    rcases run_next_at (P := C.P) w o.type r' m' since last seen.toArray es c q2 p2 (fun e he => hlts _ (hborn e he)) hsl with ⟨h0, hrun⟩ | ⟨e, he, w1, hw1, hrun⟩
    ·have hall : ∀ b ∈ B, seen.contains b = true := by
      intro b hb
      rw [← p8] at hb
      obtain ⟨e, he, rfl⟩ := List.mem_map.1 hb
      have := all_seen es seen.toArray h0 e he
      simpa using this
     have hvc := hover hall
     have h1 := h.reobj hC (κ := κm) (b := m') (o' := .mp t sk L) (w' := w) (by rw [eηm]; rfl) rfl (by rw [p1]; rfl) (fun _ _ => rfl) rfl ⟨rfl, rfl, rfl⟩ ⟨m', es, c, p1, p2, p3, p4, p5, p6, p7, by rw [p8]; exact hnd, fun e he => Nat.lt_of_lt_of_le (hlts _ (hborn e he)) hsc⟩ (by intro κ' hκ'; cases hκ')
     refine wp_value (v := .tuple #[.bool false]) (w' := w) (by simp [execOp, ho, e2, hrun]) (hK _ _ _ hvc ?_)
     have hR : R ok β w (.tupS [.p (.bool false)]) (.tuple #[.bool false]) := by
      rw [R]
      exact ⟨[.bool false], rfl, by rw [R, RP], trivial⟩
     show St C n F ok0 w0 (s.app o.dst { x := .tupS [.p (.bool false)], st := some (κm, .mp t sk L) }) (a.put o.dst _) w
     cases ed : o.dst with
     | none => exact ⟨_, _, h1⟩
     | some d => exact ⟨_, _, h1.put (hd d ed) hR (by intro κ' hκ'; simp [SV.keys, SV.keysL] at hκ')⟩
    ·obtain ⟨hem, hes⟩ := mem_left he
     obtain ⟨i, hi⟩ := List.getElem?_of_mem hem
     have hlen : es.toList.length = L.length := by have := congrArg List.length p5; simpa using this
     have hiL : i < L.length := by rw [← hlen]; exact (List.getElem?_eq_some_iff.1 hi).1
     obtain ⟨⟨key, v⟩, hiv⟩ : ∃ y, L[i]? = some y := ⟨_, List.getElem?_eq_getElem hiL⟩
     have hkey : e.key = key.val := by
      have := congrArg (·[i]?) p5
      simp only [List.getElem?_map, hi, hiv, Option.map_some, Option.some.injEq] at this
      exact this
     have hbi : B[i]? = some e.born := by rw [← p8, List.getElem?_map, hi]; rfl
     have hvR : RP ok w v e.val := by
      obtain ⟨u, hu, hR⟩ := RPL_get p6 (i := i) (x := v) (by rw [List.getElem?_map, hiv]; rfl)
      rw [List.getElem?_map, hi] at hu
      cases hu
      exact hR
     have hvc := hstep i key v e.born hiv hbi (by simpa using hes)
     have hwd : w1.heap = w.heap ∧ w1.os = w.os ∧ w1.tape = w.tape ∧ w1.output = w.output := by rcases hw1 with rfl | rfl <;> exact ⟨rfl, rfl, rfl, rfl⟩
     obtain ⟨w', hw'⟩ : ∃ w' : World, w' = Go.ChangeMaps.setBlock w1 r' (.mapIter (some m') since (seen.toArray.push e.born) c) := ⟨_, rfl⟩
     rw [← hw'] at hrun
     have hrl : r' < w.heap.size := (Array.getElem?_eq_some_iff.1 q2).1
     have hheap' : w'.heap = w.heap.setIfInBounds r' (.mapIter (some m') since (seen.toArray.push e.born) c) := by
      rw [hw']
      show w1.heap.setIfInBounds _ _ = _
      rw [hwd.1]
     have hsame : ∀ b, b ≠ r' → w'.heap[b]? = w.heap[b]? := fun b hb => by
      rw [hheap', Array.getElem?_setIfInBounds]
      rw [if_neg (fun e => hb e.symm)]
     have hmine : (s.η κ).mine = true := by rw [eη]; rfl
     have hst : Stay ok w w' := fun b hb _ => hsame b fun e => q3 (e ▸ hb)
     have hst2 := h.reobj hC (o' := .mi κm m' since (seen ++ [e.born]) c) hmine rfl (b := r') (by rw [q1]; rfl) hsame (by rw [hheap']; simp) (by rw [hw']; exact ⟨hwd.2.1, hwd.2.2.1, hwd.2.2.2⟩) ⟨r', q1, by rw [hheap']; simp [hrl], q3, q4⟩ (by intro κ' hκ'; cases hκ')
     refine wp_value (v := .tuple #[.bool true, e.key, e.val]) (w' := w') (by simp [execOp, ho, e2, hrun]) (hK _ _ _ hvc ?_)
     have hR : R ok β w' (.tupS [.p (.bool true), .p key.pv, .p v]) (.tuple #[.bool true, e.key, e.val]) := by
      rw [R]
      exact ⟨[.bool true, e.key, e.val], rfl, by rw [R, RP], by rw [R, hkey]; exact MK.pv_R, by rw [R]; exact RP_stay (fun _ h => h) hst hvR, trivial⟩
     show St C n F ok0 w0 (s.app o.dst { x := .tupS [.p (.bool true), .p key.pv, .p v], st := some (κ, .mi κm m' since (seen ++ [e.born]) c) }) (a.put o.dst _) w'
     cases ed : o.dst with
     | none => exact ⟨_, _, hst2⟩
     | some d => exact ⟨_, _, hst2.put (hd d ed) hR (by intro κ' hκ'; simp [SV.keys, SV.keysL] at hκ')⟩
   ·exact hvc.elim
  ·exact hvc.elim
 ·exact hvc.elim
theorem op_entry (hC : CxOk C) {x : Operand} (ho : o.op = .entry x) (h : StO C n F ok0 w0 ok β s a w) (hd : ∀ d, o.dst = some d → d < n) (hvc : VC C own o s.ev s.η k)
  (hK : ∀ u a' w', k u → St C n F ok0 w0 (s.app o.dst u) a' w' → K a' w') : o.wp C.P a w K Q := by
 simp only [VC, ho] at hvc
 split at hvc
 ·rename_i κ ex
  split at hvc
  ·rename_i κm m since seen last eη
   split at hvc
   ·rename_i t sk L B c m' eηm
    obtain ⟨rfl, rfl, hnd, q, i, key, v, b, rfl, hiv, hbi, hvc⟩ := hvc
    have hob := h.η κ
    rw [eη] at hob
    obtain ⟨r, q1, q2, q3, q4⟩ := hob
    have hobm := h.η κm
    rw [eηm] at hobm
    obtain ⟨es, p1, p2, p3, p4, p5, p6, p7, p8⟩ := hobm
    have hr := ev_R h x
    rw [ex, R] at hr
    obtain ⟨r', e1, e2⟩ := hr
    have : r' = r := by rw [q1] at e1; simpa using e1.symm
    subst this
    have hil : i < es.toList.length := by
     have := congrArg List.length p8
     rw [List.length_map] at this
     rw [this]
     exact (List.getElem?_eq_some_iff.1 hbi).1
    obtain ⟨e, hi⟩ : ∃ e, es.toList[i]? = some e := ⟨_, List.getElem?_eq_getElem hil⟩
    have heb : e.born = b := by
     rw [← p8, List.getElem?_map, hi] at hbi
     simpa using hbi
    subst heb
    have hkey : e.key = key.val := by
     have := congrArg (·[i]?) p5
     simp only [List.getElem?_map, hi, hiv, Option.map_some, Option.some.injEq] at this
     exact this
    have hvR : RP ok w v e.val := by
     obtain ⟨u, hu, hR⟩ := RPL_get p6 (i := i) (x := v) (by rw [List.getElem?_map, hiv]; rfl)
     rw [List.getElem?_map, hi] at hu
     cases hu
     exact hR
    have hrun := run_entry_at (P := C.P) w r' m' since q.toArray es last e (by simpa using q2) p2 (List.mem_of_getElem? hi) (by rw [p8]; exact hnd)
    refine wp_read h hd hK (x := .tupS [.p key.pv, .p v]) (v := .tuple #[e.key, e.val]) (by simp [execOp, ho, e2, hrun]) hvc ?_ (by intro κ' hκ'; simp [SV.keys, SV.keysL] at hκ')
    rw [R]
    exact ⟨[e.key, e.val], rfl, by rw [R, hkey]; exact MK.pv_R, by rw [R]; exact hvR, trivial⟩
   ·exact hvc.elim
  ·exact hvc.elim
 ·exact hvc.elim
theorem RPL_erase : ∀ {xs : List PV} {vs : List Value} (j : Nat), RPL ok w xs vs → RPL ok w (xs.eraseIdx j) (vs.eraseIdx j)
 | [], [], j, h => by simpa using h
 | [], _ :: _, j, h => h.elim
 | _ :: _, [], j, h => h.elim
 | x :: xs, v :: vs, 0, h => h.2
 | x :: xs, v :: vs, j + 1, h => ⟨h.1, RPL_erase j h.2⟩
theorem map_erase {α γ : Type} (f : α → γ) : ∀ (l : List α) (j : Nat), (l.eraseIdx j).map f = (l.map f).eraseIdx j
 | [], j => rfl
 | x :: l, 0 => rfl
 | x :: l, j + 1 => by simp [List.eraseIdx, map_erase f l j]
theorem findNow_del {sk : Bool} {key : MK} (hk : key.isS = sk) : ∀ (es : List MapEntry) (L : List (MK × PV)) (i : Nat), es.map (·.key) = L.map (fun x => x.1.val) → (∀ x ∈ L, x.1.isS = sk) →
  (Instr.findNow (mkD sk) key.val es i = some none ∧ mfind key L = none) ∨
  ∃ j v, Instr.findNow (mkD sk) key.val es i = some (some (i + j, v)) ∧ mfind key L = some j
 | [], [], i, _, _ => .inl ⟨rfl, rfl⟩
 | [], _ :: _, i, h, _ => by simp at h
 | _ :: _, [], i, h, _ => by simp at h
 | e :: es, (k, x) :: L, i, h, hs => by
  simp only [List.map_cons, List.cons.injEq] at h
  have hsk := sameNow_mk hk (hs (k, x) (List.mem_cons_self ..))
  by_cases e1 : key = k
  ·subst e1
   refine .inr ⟨0, e.val, ?_, by simp [mfind]⟩
   simp only [Instr.findNow, h.1, hsk, decide_true]
   rfl
  ·have hr : Instr.findNow (mkD sk) key.val (e :: es) i = Instr.findNow (mkD sk) key.val es (i + 1) := by
    simp only [Instr.findNow, h.1, hsk, decide_eq_false e1]
   rw [hr]
   rcases findNow_del hk es L (i + 1) h.2 (fun y hy => hs y (List.mem_cons_of_mem _ hy)) with ⟨h1, h2⟩ | ⟨j, v, h1, h2⟩
   ·exact .inl ⟨h1, by simp [mfind, e1, h2]⟩
   ·exact .inr ⟨j + 1, v, by rw [h1]; congr 3; omega, by simp [mfind, e1, h2]⟩
theorem op_delete (hC : CxOk C) {c : Call} (ho : o.op = .call c) (hb : c.callee = .builtin .delete) (h : StO C n F ok0 w0 ok β s a w) (hvc : VC C own o s.ev s.η k)
  (hK : ∀ u a' w', k u → St C n F ok0 w0 (s.app o.dst u) a' w' → K a' w') : o.wp C.P a w K Q := by
 obtain ⟨callee, args, argTypes⟩ := c
 subst hb
 simp only [VC, ho] at hvc
 split at hvc
 ·rename_i x y t ed eA eTy
  have hargs : args = #[x, y] := by
   apply Array.ext'
   simpa using eA
  subst hargs
  split at hvc
  ·rename_i ti κ key eT ex ek
   split at hvc
   ·rename_i t' sk L B cl m eη
    obtain ⟨rfl, hsk, hsk7, hk, hvc⟩ := hvc
    obtain ⟨kt, hut, huk⟩ := (hC.ty _ _ eT).map hk
    rw [← hsk7] at huk
    have hob := h.η κ
    rw [eη] at hob
    obtain ⟨es, q1, q2, q3, q4, q5, q6, q7, q8⟩ := hob
    have hrx := ev_R h x
    rw [ex, R, q1] at hrx
    have hkey := mkOf_val h ek
    have hck := fun b => Go.MapKept.run_checkKey (P := C.P) (w := w) huk (mk_isKey hsk) b 9999
    obtain ⟨es', hes', hrun⟩ : ∃ es' : Array MapEntry, es'.toList = (mdel key L es.toList) ∧ (Builtin.delete_ argTypes o.type #[a.eval x, a.eval y]).run C.P w = .ok (.tuple #[]) { w with heap := w.heap.setIfInBounds m (.map es' cl) } := by
     rcases findNow_del hsk es.toList L 0 q5 q7 with ⟨h1, h2⟩ | ⟨j, v, h1, h2⟩
     ·have hfk := Go.MapKept.run_findKey (P := C.P) (w := w) huk h1
      refine ⟨es, by rw [mdel, h2], ?_⟩
      rw [hrx.1, hkey]
      simp [Builtin.delete_, eTy, run_underlying hut, Go.MapKept.run_getObj_map q2, hck, hfk, Go.MapKept.run_setObj_map _ q2, Result.andThen]
     ·have hfk := Go.MapKept.run_findKey (P := C.P) (w := w) huk h1
      rw [Nat.zero_add] at hfk
      refine ⟨es.eraseIdxIfInBounds j, ?_, ?_⟩
      ·rw [mdel, h2]
       unfold Array.eraseIdxIfInBounds
       split
       ·simp
       ·rename_i hj
        show es.toList = es.toList.eraseIdx j
        rw [List.eraseIdx_of_length_le (by simpa using hj)]
      ·rw [hrx.1, hkey]
       simp [Builtin.delete_, eTy, run_underlying hut, Go.MapKept.run_getObj_map q2, hck, hfk, Go.MapKept.run_setObj_map _ q2, Result.andThen]
    refine wp_value (v := .tuple #[]) (w' := { w with heap := w.heap.setIfInBounds m (.map es' cl) }) (by simp [execOp, ho, resolve, invoke, builtin, hrun]) (hK _ _ _ hvc ?_)
    rw [ed]
    have hlt : m < w.heap.size := (Array.getElem?_eq_some_iff.1 q2).1
    have hsame : ∀ b, b ≠ m → ({ w with heap := w.heap.setIfInBounds m (.map es' cl) } : World).heap[b]? = w.heap[b]? := fun b hb => setHeap_same w m _ hb
    have hst : Stay ok w { w with heap := w.heap.setIfInBounds m (.map es' cl) } := fun b hb _ => hsame b fun e => q3 (e ▸ hb)
    have q6 := RPL_stay (fun _ h => h) hst q6
    refine ⟨ok, β, h.reobj hC (κ := κ) (b := m) (o' := .ms t' sk (mdel key L L) (mdel key L B) cl m) (by rw [eη]; rfl) rfl (by rw [q1]; rfl) hsame (by simp) ⟨rfl, rfl, rfl⟩ ⟨es', q1, ?_, q3, q4, ?_, ?_, ?_, ?_⟩ (by intro κ' hκ'; cases hκ')⟩
    ·show (w.heap.setIfInBounds m _)[m]? = _
     simp [hlt]
    ·rw [hes']
     unfold mdel
     cases mfind key L with
     | none => exact q5
     | some j => simp only [map_erase]; rw [q5]
    ·rw [hes']
     unfold mdel
     cases mfind key L with
     | none => exact q6
     | some j => simp only [map_erase]; exact RPL_erase j q6
    ·intro z hz
     unfold mdel at hz
     cases e : mfind key L with
     | none => rw [e] at hz; exact q7 z hz
     | some j => rw [e] at hz; exact q7 z ((List.eraseIdx_sublist _ _).subset hz)
    ·rw [hes']
     unfold mdel
     cases mfind key L with
     | none => exact q8
     | some j => simp only [map_erase]; rw [q8]
   ·exact hvc.elim
  ·exact hvc.elim
 ·exact hvc.elim
end
end Go.Vc
