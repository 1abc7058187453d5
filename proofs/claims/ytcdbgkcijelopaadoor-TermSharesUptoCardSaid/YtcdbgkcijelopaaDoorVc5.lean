/- A calculus of verification conditions, part 5: the operations that only read. -/
import Derived.Test.YtcdbgkcijelopaaDoorVc4
import Derived.Laws.Strings
set_option linter.unusedVariables false
namespace Go.Vc
open Go Go.RowKit

section
variable {C : Cx} {n : Nat} {F : Fm} {ok0 : Nat → Prop} {w0 : World} {ok : Nat → Prop} {β : Nat → Value} {s : S} {a : Act} {w : World} {own : Nat → Bool} {o : Oper} {k : U → Prop} {K : Act → World → Prop} {Q : Exit → Act → World → Prop}

theorem St_put (h : StO C n F ok0 w0 ok β s a w) (hd : ∀ d, o.dst = some d → d < n) {x : SV} {v : Value} (hr : R ok β w x v) (hk : ∀ κ ∈ x.keys, (s.η κ).live = true) : St C n F ok0 w0 (s.app o.dst { x := x }) (a.put o.dst v) w := by
  cases e : o.dst with
  | none => exact ⟨ok, β, h⟩
  | some d => exact ⟨ok, β, h.put (hd d e) hr hk⟩
/-- An operation that yields a value in the world as it is. -/
theorem wp_read (h : StO C n F ok0 w0 ok β s a w) (hd : ∀ d, o.dst = some d → d < n) (hK : ∀ u a' w', k u → St C n F ok0 w0 (s.app o.dst u) a' w' → K a' w') {x : SV} {v : Value}
    (hrun : (execOp a.eval o).run C.P w = .ok (.value v) w) (hu : k { x := x }) (hr : R ok β w x v) (hk : ∀ κ ∈ x.keys, (s.η κ).live = true) : o.wp C.P a w K Q :=
  wp_value hrun (hK _ _ _ hu (St_put h hd hr hk))
theorem ev_keys (h : StO C n F ok0 w0 ok β s a w) (x : Operand) : ∀ κ ∈ (s.ev x).keys, (s.η κ).live = true := by
  cases x with
  | tmp t => exact h.wf.ρ t
  | const v =>
    intro κ hκ
    have : (cv v).keys = [] := by
      unfold cv
      split
      · rename_i cs
        cases cs.toList.all Value.oneCell' <;> rfl
      · rfl
      · rfl
    rw [show s.ev (.const v) = cv v from rfl, this] at hκ
    cases hκ
  | global g => intro κ hκ; cases hκ
  | func f => intro κ hκ; cases hκ

theorem op_move {x : Operand} (ho : o.op = .move x ∨ o.op = .assign x) (h : StO C n F ok0 w0 ok β s a w) (hd : ∀ d, o.dst = some d → d < n) (hvc : k { x := s.ev x })
    (hK : ∀ u a' w', k u → St C n F ok0 w0 (s.app o.dst u) a' w' → K a' w') : o.wp C.P a w K Q := by
  rcases ho with ho | ho <;> exact wp_read h hd hK (by simp [execOp, ho]) hvc (ev_R h x) (ev_keys h x)
theorem ev_bool (h : StO C n F ok0 w0 ok β s a w) {x : Operand} {t : Bool} (e : s.ev x = .p (.bool t)) : a.eval x = .bool t := by
  have := ev_R h x
  rw [e, R, RP] at this
  exact this
theorem ev_int (h : StO C n F ok0 w0 ok β s a w) {x : Operand} {j : IntKind} {m : Int} (e : s.ev x = .p (.int j m)) : a.eval x = .int j m := by
  have := ev_R h x
  rw [e, R, RP] at this
  exact this
theorem ev_str (h : StO C n F ok0 w0 ok β s a w) {x : Operand} {l : List UInt8} (e : s.ev x = .p (.str l)) : a.eval x = .string ⟨l.toArray⟩ := by
  have := ev_R h x
  rw [e, R, RP] at this
  exact this
theorem op_pick {c x y : Operand} (ho : o.op = .pick c x y) (h : StO C n F ok0 w0 ok β s a w) (hd : ∀ d, o.dst = some d → d < n) (hvc : VC C own o s.ev s.η k)
    (hK : ∀ u a' w', k u → St C n F ok0 w0 (s.app o.dst u) a' w' → K a' w') : o.wp C.P a w K Q := by
  simp only [VC, ho] at hvc
  split at hvc
  · rename_i t e
    have hc := ev_bool h e
    cases t with
    | true => exact wp_read h hd hK (by simp [execOp, ho, hc, asBool]) hvc (ev_R h x) (ev_keys h x)
    | false => exact wp_read h hd hK (by simp [execOp, ho, hc, asBool]) hvc (ev_R h y) (ev_keys h y)
  · exact hvc.elim
theorem op_makeFunc {f : Fn} {fi ca : Array Operand} (ho : o.op = .makeFunc f fi ca) (h : StO C n F ok0 w0 ok β s a w) (hd : ∀ d, o.dst = some d → d < n) (hvc : VC C own o s.ev s.η k)
    (hK : ∀ u a' w', k u → St C n F ok0 w0 (s.app o.dst u) a' w' → K a' w') : o.wp C.P a w K Q := by
  simp only [VC, ho] at hvc
  split at hvc
  · rename_i f' e2
    have hfi : fi = #[] := by cases fi; simp_all
    subst hfi
    refine wp_read h hd hK (v := .func (.func f') #[] (ca.toList.map a.eval).toArray) (by simp [execOp, ho, Instr.makeFunc]; apply Array.ext'; simp) hvc ?_ ?_
    · rw [R]
      refine ⟨_, rfl, ?_⟩
      induction ca.toList with
      | nil => trivial
      | cons x l ih => exact ⟨ev_R h x, ih⟩
    · intro κ hκ
      simp only [SV.keys] at hκ
      have key : ∀ l : List Operand, κ ∈ SV.keysL (l.map s.ev) → (s.η κ).live = true := by
        intro l
        induction l with
        | nil => intro hl; simp [SV.keysL] at hl
        | cons x l ih =>
          intro hl
          simp only [List.map_cons, SV.keysL, List.mem_append] at hl
          rcases hl with hl | hl
          · exact ev_keys h x κ hl
          · exact ih hl
      exact key _ hκ
  · exact hvc.elim
theorem op_nilCheck {x : Operand} (ho : o.op = .nilCheck x) (h : StO C n F ok0 w0 ok β s a w) (hd : ∀ d, o.dst = some d → d < n) (hvc : VC C own o s.ev s.η k)
    (hK : ∀ u a' w', k u → St C n F ok0 w0 (s.app o.dst u) a' w' → K a' w') : o.wp C.P a w K Q := by
  simp only [VC, ho] at hvc
  split at hvc
  · rename_i κ off e
    have hr := ev_R h x
    have hk := ev_keys h x
    rw [e] at hr hk
    have hr' := hr
    rw [R] at hr'
    obtain ⟨b, h1, h2⟩ := hr'
    exact wp_read h hd hK (v := a.eval x) (by simp [execOp, ho, h2]) hvc hr hk
  · exact hvc.elim
theorem op_unOp {op : UnOp} {t : TypeId} {x : Operand} (ho : o.op = .unOp op t x) (h : StO C n F ok0 w0 ok β s a w) (hd : ∀ d, o.dst = some d → d < n) (hvc : VC C own o s.ev s.η k)
    (hK : ∀ u a' w', k u → St C n F ok0 w0 (s.app o.dst u) a' w' → K a' w') : o.wp C.P a w K Q := by
  simp only [VC, ho] at hvc
  split at hvc
  · rename_i b e
    have hc := ev_bool h e
    exact wp_read h hd hK (v := .bool !b) (by simp [execOp, ho, hc, Op.unary]) hvc (by rw [R, RP]) (by intro κ hκ; cases hκ)
  · rename_i j b e
    obtain ⟨r, rfl, hvc⟩ := hvc
    have hc := ev_int h e
    exact wp_read h hd hK (v := .int j (j.wrap (0 - b))) (by simp [execOp, ho, hc, Op.unary, Op.intArith]) hvc (by rw [R, RP]) (by intro κ hκ; cases hκ)
  · exact hvc.elim
theorem op_extract {x : Operand} {i : Nat} (ho : o.op = .extract x i) (h : StO C n F ok0 w0 ok β s a w) (hd : ∀ d, o.dst = some d → d < n) (hvc : VC C own o s.ev s.η k)
    (hK : ∀ u a' w', k u → St C n F ok0 w0 (s.app o.dst u) a' w' → K a' w') : o.wp C.P a w K Q := by
  simp only [VC, ho] at hvc
  split at hvc
  · rename_i cs e
    have hr := ev_R h x
    have hk := ev_keys h x
    rw [e, R] at hr
    rw [e] at hk
    obtain ⟨vs, h1, h2⟩ := hr
    split at hvc
    · rename_i y ey
      obtain ⟨v, hv, hry⟩ := RL_get h2 ey
      exact wp_read h hd hK (v := v) (by simp [execOp, ho, h1, Instr.extract, hv]) hvc hry fun κ hκ => hk κ (by simpa [SV.keys] using keysL_mem (List.mem_of_getElem? ey) hκ)
    · exact hvc.elim
  · exact hvc.elim
theorem binOp_eqGuard {P : Program} {op : BinOp} {t : TypeId} {x y : Operand} {u v : Value} (hu : one u) (hv : one v) (h1 : u ≠ .nilIface) : (eqGuard op t x y u v).run P w = .ok () w := by
  unfold eqGuard
  cases u <;> cases v <;> first | (simp [one, Value.oneCell'] at hu; done) | (simp [one, Value.oneCell'] at hv; done) | (exact absurd rfl h1) | (simp; try split <;> simp)
theorem run_intBin {P : Program} {op : BinOp} {t : TypeId} {j j' : IntKind} {x y : Int} {K : PV → Prop} (hj : okK op j j' = true) (h : intBin op j x y K) : ∃ r v, (binOp op t (.int j x) (.int j' y)).run P w = .ok v w ∧ RP ok w r v ∧ K r := by
  have hs : op = .shl ∨ op = .shr ∨ j = j' := by cases op <;> simp_all [okK]
  cases op <;> simp only [intBin] at h
  case shl =>
    obtain ⟨h0, r, rfl, h⟩ := h
    exact ⟨_, _, by simp [binOp, Op.shift, Int.not_lt.2 h0]; rfl, by rw [RP], h⟩
  case shr =>
    obtain ⟨h0, r, rfl, h⟩ := h
    exact ⟨_, _, by simp [binOp, Op.shift, Int.not_lt.2 h0]; rfl, by rw [RP], h⟩
  all_goals
    have hs' : j = j' := by simpa using hs
    subst hs'
  case quo =>
    obtain ⟨h0, r, rfl, h⟩ := h
    exact ⟨_, _, by simp [binOp, Op.intDiv, h0]; rfl, by rw [RP], h⟩
  case rem =>
    obtain ⟨h0, r, rfl, h⟩ := h
    exact ⟨_, _, by simp [binOp, Op.intDiv, h0]; rfl, by rw [RP], h⟩
  case and =>
    obtain ⟨r, rfl, h⟩ := h
    exact ⟨_, _, by simp only [binOp, Op.intBits, ne_eq, not_true_eq_false, if_false]; rfl, by rw [RP], h⟩
  case or =>
    obtain ⟨r, rfl, h⟩ := h
    exact ⟨_, _, by simp only [binOp, Op.intBits, ne_eq, not_true_eq_false, if_false]; rfl, by rw [RP], h⟩
  case xor =>
    obtain ⟨r, rfl, h⟩ := h
    exact ⟨_, _, by simp only [binOp, Op.intBits, ne_eq, not_true_eq_false, if_false]; rfl, by rw [RP], h⟩
  case add => obtain ⟨r, rfl, h⟩ := h; exact ⟨_, _, by simp [binOp, Op.intArith]; rfl, by rw [RP], h⟩
  case sub => obtain ⟨r, rfl, h⟩ := h; exact ⟨_, _, by simp [binOp, Op.intArith]; rfl, by rw [RP], h⟩
  case mul => obtain ⟨r, rfl, h⟩ := h; exact ⟨_, _, by simp [binOp, Op.intArith]; rfl, by rw [RP], h⟩
  case eql =>
    refine ⟨_, _, by simp [binOp, Op.intCmp]; rfl, ?_, h⟩
    rw [RP]
    congr 1
  case neq =>
    refine ⟨_, _, by simp [binOp, Op.intCmp]; rfl, ?_, h⟩
    rw [RP]
    congr 1
    by_cases e : x = y <;> simp [e]
  case lss => exact ⟨_, _, by simp [binOp, Op.intCmp]; rfl, by rw [RP], h⟩
  case leq => exact ⟨_, _, by simp [binOp, Op.intCmp]; rfl, by rw [RP], h⟩
  case gtr => exact ⟨_, _, by simp [binOp, Op.intCmp]; rfl, by rw [RP], h⟩
  case geq => exact ⟨_, _, by simp [binOp, Op.intCmp]; rfl, by rw [RP], h⟩
theorem run_strBin {P : Program} {op : BinOp} {t : TypeId} {x y : List UInt8} {K : PV → Prop} (h : strBin op x y K) : ∃ r v, (binOp op t (.string ⟨x.toArray⟩) (.string ⟨y.toArray⟩)).run P w = .ok v w ∧ RP ok w r v ∧ K r := by
  have hx : (ByteArray.mk x.toArray).size = x.length := by simp [ByteArray.size]
  have hy : (ByteArray.mk y.toArray).size = y.length := by simp [ByteArray.size]
  cases op <;> simp only [strBin] at h
  case add =>
    refine ⟨_, .string (⟨x.toArray⟩ ++ ⟨y.toArray⟩), ?_, ?_, h.2⟩
    · have : ¬ ((x.length + y.length : Nat) : Int) > IntKind.i64.max := by
        have := h.1
        simp [IntKind.max, IntKind.signed, IntKind.bits]
        omega
      simp only [binOp, Op.stringOp, hx, hy, if_neg this, Sem.run_pure]
    · rw [RP]
      congr 1
  case eql =>
    refine ⟨_, _, by simp [binOp, Op.stringOp]; rfl, ?_, h⟩
    rw [RP]
    by_cases e : x = y <;> simp [e]
  case neq =>
    refine ⟨_, _, by simp [binOp, Op.stringOp]; rfl, ?_, h⟩
    rw [RP]
    congr 1
    by_cases e : x = y <;> simp [e]
  case lss => exact ⟨_, _, by simp [binOp, Op.stringOp]; rfl, by rw [RP], h⟩
theorem run_equal_bool {P : Program} {t : TypeId} (h : P.underlying t = some .bool) (b c : Bool) : (Op.equal t (.bool b) (.bool c)).run P w = .ok (b == c) w := by
  have key : ∀ d, (Op.equalIn (d + 1) t (.bool b) (.bool c)).run P w = .ok (b == c) w := by
    intro d
    simp only [Op.equalIn, Sem.run_bind, run_underlying h, Result.andThen_ok, Sem.run_pure]
  exact key 9999
theorem run_equal_nil {P : Program} {t e : TypeId} (h : P.underlying t = some (.slice e)) (A : Option Addr) (n c : Nat) : (Op.equal t (.slice A n c) (.slice none 0 0)).run P w = .ok A.isNone w := by
  have key : ∀ d, (Op.equalIn (d + 1) t (.slice A n c) (.slice none 0 0)).run P w = .ok A.isNone w := by
    intro d
    cases A with
    | none => simp only [Op.equalIn, Sem.run_bind, run_underlying h, Result.andThen_ok, Sem.run_pure]
    | some ad => simp only [Op.equalIn, Sem.run_bind, run_underlying h, Result.andThen_ok, Sem.run_pure, Option.isNone_some]
  exact key 9999
theorem op_binOp (hC : CxOk C) {op : BinOp} {t t' : TypeId} {x y : Operand} (ho : o.op = .binOp op t x y t') (h : StO C n F ok0 w0 ok β s a w) (hd : ∀ d, o.dst = some d → d < n) (hvc : VC C own o s.ev s.η k)
    (hK : ∀ u a' w', k u → St C n F ok0 w0 (s.app o.dst u) a' w' → K a' w') : o.wp C.P a w K Q := by
  simp only [VC, ho] at hvc
  have fin : ∀ (u v : Value) (r : PV) (z : Value), a.eval x = u → a.eval y = v → one u → one v → u ≠ .nilIface → (binOp op t u v).run C.P w = .ok z w → RP ok w r z → k { x := .p r } → o.wp C.P a w K Q := by
    intro u v r z e1 e2 h1 h2 h3 hr hz hu
    refine wp_read h hd hK (v := z) ?_ hu hz (by intro κ hκ; cases hκ)
    simp [execOp, ho, e1, e2, binOp_eqGuard h1 h2 h3, hr]
  split at hvc
  · rename_i j b j' c e1 e2
    obtain ⟨hj, hvc⟩ := hvc
    obtain ⟨r, v, hr, hz, hu⟩ := run_intBin (ok := ok) (w := w) (P := C.P) (t := t) hj hvc
    exact fin _ _ r v (ev_int h e1) (ev_int h e2) rfl rfl (by simp) hr hz hu
  · rename_i b c e1 e2
    obtain ⟨r, v, hr, hz, hu⟩ := run_strBin (ok := ok) (w := w) (P := C.P) (t := t) hvc
    exact fin _ _ r v (ev_str h e1) (ev_str h e2) rfl rfl (by simp) hr hz hu
  · rename_i b c e1 e2
    split at hvc
    · rename_i ti eT
      obtain ⟨hk, hvc⟩ := hvc
      refine fin _ _ _ (.bool (b == c)) (ev_bool h e1) (ev_bool h e2) rfl rfl (by simp) ?_ (by rw [RP]) hvc
      simp [binOp, run_equal_bool ((hC.ty _ _ eT).bool hk)]
    · rename_i ti eT
      obtain ⟨hk, hvc⟩ := hvc
      refine fin _ _ _ (.bool (!(b == c))) (ev_bool h e1) (ev_bool h e2) rfl rfl (by simp) ?_ (by rw [RP]) hvc
      simp [binOp, run_equal_bool ((hC.ty _ _ eT).bool hk)]
    · exact hvc.elim
  · rename_i L e1 e2
    have hx := ev_R h x
    have hy := ev_R h y
    rw [e1, R, RP] at hx
    rw [e2, R, RP] at hy
    obtain ⟨A, cap, sz, h1, h2, _, h4⟩ := hx
    split at hvc
    · rename_i ti eT
      obtain ⟨hk, hvc⟩ := hvc
      have hu := run_equal_nil (P := C.P) (w := w) ((hC.ty _ _ eT).slice hk) A L.length cap
      refine wp_read h hd hK (x := .nilQ L) (v := .bool A.isNone) ?_ hvc ?_ (by intro κ hκ; cases hκ)
      · simp [execOp, ho, h1, hy, eqGuard, binOp, hu]
      · rw [R]
        refine ⟨_, rfl, fun hA => ?_⟩
        cases L with
        | nil => rfl
        | cons z L =>
          obtain ⟨⟨ad, c, h5, _⟩, _⟩ := h4
          rw [h5] at hA
          simp at hA
    · exact hvc.elim
  · exact hvc.elim
end
end Go.Vc
