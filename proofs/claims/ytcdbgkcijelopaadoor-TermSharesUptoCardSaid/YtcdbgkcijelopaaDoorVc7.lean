/- A calculus of verification conditions, part 7: cuts, lengths, structs put together. -/
import Derived.Test.YtcdbgkcijelopaaDoorVc6
import Derived.Laws.Strings2
set_option linter.unusedVariables false
namespace Go.Vc
open Go Go.RowKit

section
variable {C : Cx} {n : Nat} {F : Fm} {ok0 : Nat → Prop} {w0 : World} {ok : Nat → Prop} {β : Nat → Value} {s : S} {a : Act} {w : World} {own : Nat → Bool} {o : Oper} {k : U → Prop} {K : Act → World → Prop} {Q : Exit → Act → World → Prop}

theorem cut_length {α : Type} {L : List α} {lo hi : Nat} (h : hi ≤ L.length) : (cut L lo hi).length = hi - lo := by
  unfold cut
  rw [List.length_take, List.length_drop]
  omega
theorem cut_get {α : Type} {L : List α} {lo hi i : Nat} {x : α} (h : (cut L lo hi)[i]? = some x) : L[lo + i]? = some x := getElem?_sub h
theorem bnd_spec (h : StO C n F ok0 w0 ok β s a w) {d : Nat} {x : Option Operand} {k : Nat → Prop} (hb : bnd s.ev d x k) : (x = none ∧ k d) ∨ ∃ y j m, x = some y ∧ a.eval y = .int j m ∧ 0 ≤ m ∧ k m.toNat := by
  cases x with
  | none => exact .inl ⟨rfl, hb⟩
  | some y =>
    simp only [bnd] at hb
    split at hb
    · rename_i j m e
      exact .inr ⟨y, j, m, rfl, ev_int h e, hb.1, hb.2⟩
    · exact hb.elim
theorem run_sliceBound {P : Program} {j : IntKind} {m : Int} {y : Nat} {code : BoundsCode} (h0 : 0 ≤ m) (h : m.toNat ≤ y) : (Instr.sliceBound (.int j m) y code).run P w = .ok m.toNat w := by
  have : 0 ≤ m ∧ m ≤ (y : Int) := ⟨h0, by omega⟩
  simp [Instr.sliceBound, asIntOf, this]

theorem op_slice (hC : CxOk C) {t : TypeId} {x : Operand} {lo hi mx : Option Operand} (ho : o.op = .slice t x lo hi mx) (h : StO C n F ok0 w0 ok β s a w) (hd : ∀ d, o.dst = some d → d < n) (hvc : VC C own o s.ev s.η k)
    (hK : ∀ u a' w', k u → St C n F ok0 w0 (s.app o.dst u) a' w' → K a' w') : o.wp C.P a w K Q := by
  simp only [VC, ho] at hvc
  split at hvc
  · rename_i ti L eT e
    obtain ⟨hk, hmx, ⟨te, eE, hall⟩, hv1⟩ := hvc
    have hr := ev_R h x
    rw [e, R, RP] at hr
    obtain ⟨A, cap, sz, h1, h2, h3, h4⟩ := hr
    have hu := run_underlying (P := C.P) ((hC.ty _ _ eT).slice hk) w
    have hsz := (hC.ty _ _ eE).size w
    -- the value of a cut
    have fin : ∀ (l hh M : Nat), l ≤ hh → hh ≤ M → hh ≤ L.length → M ≤ cap → k { x := .p (.lst (cut L l hh)) } →
        (Instr.sliceBounds true L.length cap (lo.map a.eval) (hi.map a.eval) (mx.map a.eval)).run C.P w = .ok (l, hh, M) w → o.wp C.P a w K Q := by
      intro l hh M q1 q2 q3 q4 hu2 hb
      refine wp_read h hd hK (v := .slice (if M = l then A else A.map (·.add (l * te.sz))) (hh - l) (M - l)) ?_ hu2 ?_ (by intro κ hκ; cases hκ)
      · simp [execOp, ho, h1, Instr.sliceAt, Instr.slice, hu, hb, hsz]
      · rw [R, RP]
        refine ⟨_, M - l, te.sz, by rw [cut_length q3], by rw [cut_length q3]; omega, by omega, RPE_of fun i y hy => ?_⟩
        have hy2 := cut_get hy
        have hlt : i < hh - l := by rw [← cut_length q3]; exact (List.getElem?_eq_some_iff.1 hy).1
        obtain ⟨ad, c, rfl, h5, h6, h7, h8⟩ := RPE_get h4 hy2
        have hsh : y.shape = (te.agg, te.sz) := by
          have key : ∀ (L : List PV) (j : Nat), allSz (te.agg, te.sz) L → L[j]? = some y → y.shape = (te.agg, te.sz) := by
            intro L
            induction L with
            | nil => intro j _ hj; simp at hj
            | cons z L ih =>
              intro j hz hj
              cases j with
              | zero => simp at hj; subst hj; exact hz.1
              | succ j => exact ih j hz.2 (by simpa using hj)
          exact key L _ hall hy2
        have hce : sz = te.sz := by rw [← h7, (RP_one h6).2.1, hsh]
        subst hce
        refine ⟨ad.add (l * te.sz), c, by rw [if_neg (by omega)]; rfl, by rw [add_block]; exact h5, h6, h7, fun q u hq => ?_⟩
        rw [add_add]
        have := h8 q u hq
        rwa [show l * te.sz + ((0 + i) * te.sz + q) = (0 + (l + i)) * te.sz + q by rw [Nat.zero_add, Nat.zero_add, Nat.add_mul]; omega]
    rcases bnd_spec h hv1 with ⟨rfl, hv2⟩ | ⟨y1, j1, m1, rfl, e1, p1, hv2⟩ <;> rcases bnd_spec h hv2 with ⟨rfl, hv3⟩ | ⟨y2, j2, m2, rfl, e2, p2, hv3⟩ <;> rcases bnd_spec h hv3 with ⟨rfl, hv4⟩ | ⟨y3, j3, m3, rfl, e3, p3, hv4⟩ <;>
      obtain ⟨c1, c2, c3, hvc⟩ := hv4
    · exact fin 0 L.length cap (by omega) h2 (by omega) (by omega) hvc (by simp [Instr.sliceBounds])
    · simp at hmx
    · exact fin 0 m2.toNat cap (by omega) (by omega) (by omega) (by omega) hvc (by simp [Instr.sliceBounds, e2, run_sliceBound (P := C.P) (w := w) (j := j2) (code := .sliceAcap) p2 (show m2.toNat ≤ cap by omega)])
    · exact fin 0 m2.toNat m3.toNat (by omega) (by omega) (by omega) (by omega) hvc (by simp [Instr.sliceBounds, e2, e3, run_sliceBound (P := C.P) (w := w) (j := j3) (code := .slice3Acap) p3 (show m3.toNat ≤ cap by omega), run_sliceBound (P := C.P) (w := w) (j := j2) (code := .slice3B) p2 (show m2.toNat ≤ m3.toNat by omega)])
    · exact fin m1.toNat L.length cap (by omega) h2 (by omega) (by omega) hvc (by simp [Instr.sliceBounds, e1, run_sliceBound (P := C.P) (w := w) (j := j1) (code := .sliceB) p1 (show m1.toNat ≤ L.length by omega)])
    · simp at hmx
    · exact fin m1.toNat m2.toNat cap (by omega) (by omega) (by omega) (by omega) hvc (by simp [Instr.sliceBounds, e1, e2, run_sliceBound (P := C.P) (w := w) (j := j2) (code := .sliceAcap) p2 (show m2.toNat ≤ cap by omega), run_sliceBound (P := C.P) (w := w) (j := j1) (code := .sliceB) p1 (show m1.toNat ≤ m2.toNat by omega)])
    · exact fin m1.toNat m2.toNat m3.toNat (by omega) (by omega) (by omega) (by omega) hvc (by simp [Instr.sliceBounds, e1, e2, e3, run_sliceBound (P := C.P) (w := w) (j := j3) (code := .slice3Acap) p3 (show m3.toNat ≤ cap by omega), run_sliceBound (P := C.P) (w := w) (j := j2) (code := .slice3B) p2 (show m2.toNat ≤ m3.toNat by omega), run_sliceBound (P := C.P) (w := w) (j := j1) (code := .slice3C) p1 (show m1.toNat ≤ m2.toNat by omega)])
  · rename_i ti l eT e
    obtain ⟨hk, hmx, hv1⟩ := hvc
    have h1 := ev_str h e
    have hu := run_underlying (P := C.P) ((hC.ty _ _ eT).string hk) w
    have hsize : (ByteArray.mk l.toArray).size = l.length := by simp [ByteArray.size]
    have hmx' : mx = none := by simpa using hmx
    subst hmx'
    have fin : ∀ (q hh : Nat), q ≤ hh → hh ≤ l.length → k { x := .p (.str (cut l q hh)) } →
        (Instr.sliceBounds false l.length l.length (lo.map a.eval) (hi.map a.eval) none).run C.P w = .ok (q, hh, l.length) w → o.wp C.P a w K Q := by
      intro q hh q1 q2 hu2 hb
      refine wp_read h hd hK (v := .string ((ByteArray.mk l.toArray).extract q hh)) ?_ hu2 ?_ (by intro κ hκ; cases hκ)
      · simp [execOp, ho, h1, Instr.sliceAt, Instr.slice, hu, hsize, hb]
      · rw [R, RP]
        rw [ByteArray.extract_mk]
        rfl
    rcases bnd_spec h hv1 with ⟨rfl, hv2⟩ | ⟨y1, j1, m1, rfl, e1, p1, hv2⟩ <;> rcases bnd_spec h hv2 with ⟨rfl, hv3⟩ | ⟨y2, j2, m2, rfl, e2, p2, hv3⟩ <;> obtain ⟨c1, c2, hvc⟩ := hv3
    · exact fin 0 l.length (by omega) (by omega) hvc (by simp [Instr.sliceBounds])
    · exact fin 0 m2.toNat (by omega) (by omega) hvc (by simp [Instr.sliceBounds, e2, run_sliceBound (P := C.P) (w := w) (j := j2) (code := .sliceAlen) p2 (show m2.toNat ≤ l.length by omega)])
    · exact fin m1.toNat l.length (by omega) (by omega) hvc (by simp [Instr.sliceBounds, e1, run_sliceBound (P := C.P) (w := w) (j := j1) (code := .sliceB) p1 (show m1.toNat ≤ l.length by omega)])
    · exact fin m1.toNat m2.toNat (by omega) (by omega) hvc (by simp [Instr.sliceBounds, e1, e2, run_sliceBound (P := C.P) (w := w) (j := j2) (code := .sliceAlen) p2 (show m2.toNat ≤ l.length by omega), run_sliceBound (P := C.P) (w := w) (j := j1) (code := .sliceB) p1 (show m1.toNat ≤ m2.toNat by omega)])
  · exact hvc.elim
theorem op_len (hC : CxOk C) {c : Call} (ho : o.op = .call c) (hb : c.callee = .builtin .len) (h : StO C n F ok0 w0 ok β s a w) (hd : ∀ d, o.dst = some d → d < n) (hvc : VC C own o s.ev s.η k)
    (hK : ∀ u a' w', k u → St C n F ok0 w0 (s.app o.dst u) a' w' → K a' w') : o.wp C.P a w K Q := by
  obtain ⟨callee, args, argTypes⟩ := c
  subst hb
  simp only [VC, ho] at hvc
  split at hvc
  · rename_i x ti eA eT
    have hargs : args = #[x] := by
      apply Array.ext'
      simpa using eA
    subst hargs
    obtain ⟨t, et, eT⟩ := Option.bind_eq_some_iff.1 eT
    have hT := hC.ty _ _ eT
    have fin : ∀ (v : Value) (m : Nat), a.eval x = v → (Builtin.len_ argTypes o.type #[v]).run C.P w = .ok (.int .i64 (m : Int)) w → k { x := .p (.int .i64 m) } → o.wp C.P a w K Q := by
      intro v m h1 h2 h3
      refine wp_read h hd hK (v := .int .i64 (m : Int)) ?_ h3 (by rw [R, RP]) (by intro κ hκ; cases hκ)
      simp [execOp, ho, resolve, invoke, builtin, h1, h2]
    have hr := ev_R h x
    split at hvc
    · rename_i L e
      obtain ⟨hk, hvc⟩ := hvc
      rw [e, R, RP] at hr
      obtain ⟨A, cap, sz, h1, _⟩ := hr
      exact fin _ _ h1 (by simp [Builtin.len_, et, run_underlying (hT.slice hk), goInt]) hvc
    · rename_i e
      obtain ⟨hk, hvc⟩ := hvc
      rw [e, R, RP] at hr
      exact fin _ 0 hr (by simp [Builtin.len_, et, run_underlying (hT.slice hk), goInt]) hvc
    · rename_i l e
      obtain ⟨hk, hvc⟩ := hvc
      rw [e, R, RP] at hr
      have hs : (ByteArray.mk l.toArray).size = l.length := by simp [ByteArray.size]
      exact fin _ _ hr (by simp [Builtin.len_, et, run_underlying (hT.string hk), goInt, hs]) hvc
    · rename_i κ e
      split at hvc
      · rename_i t' sz L eη
        obtain ⟨hk, hvc⟩ := hvc
        have hob := h.η κ
        rw [eη] at hob
        obtain ⟨_, ⟨xs, h1, _⟩, _⟩ := hob
        rw [e, R] at hr
        obtain ⟨hr, _⟩ := hr
        rcases h1.2 with ⟨hb, h0⟩ | ⟨g, cap, cur, hb, _⟩
        · rw [hb] at hr
          exact fin _ _ hr (by simp [Builtin.len_, et, run_underlying (hT.slice hk), goInt, h0]) hvc
        · rw [hb] at hr
          exact fin _ _ hr (by simp [Builtin.len_, et, run_underlying (hT.slice hk), goInt]) hvc
      · exact hvc.elim
    · exact hvc.elim
  · exact hvc.elim
theorem op_max {c : Call} (ho : o.op = .call c) (hb : c.callee = .builtin .max) (h : StO C n F ok0 w0 ok β s a w) (hd : ∀ d, o.dst = some d → d < n) (hvc : VC C own o s.ev s.η k)
    (hK : ∀ u a' w', k u → St C n F ok0 w0 (s.app o.dst u) a' w' → K a' w') : o.wp C.P a w K Q := by
  obtain ⟨callee, args, argTypes⟩ := c
  subst hb
  simp only [VC, ho] at hvc
  split at hvc
  · rename_i x y eA
    have hargs : args = #[x, y] := by
      apply Array.ext'
      simpa using eA
    subst hargs
    split at hvc
    · rename_i p q e1 e2
      refine wp_read h hd hK (v := .int .i64 (max p q)) ?_ hvc (by rw [R, RP]) (by intro κ hκ; cases hκ)
      have h1 := ev_int h e1
      have h2 := ev_int h e2
      have : (if q > p then q else p) = max p q := by split <;> omega
      simp [execOp, ho, resolve, invoke, builtin, h1, h2, Builtin.max_, Builtin.max2, this]
    · exact hvc.elim
  · rename_i x y z eA
    have hargs : args = #[x, y, z] := by
      apply Array.ext'
      simpa using eA
    subst hargs
    split at hvc
    · rename_i p q r e1 e2 e3
      refine wp_read h hd hK (v := .int .i64 (max (max p q) r)) ?_ hvc (by rw [R, RP]) (by intro κ hκ; cases hκ)
      have h1 := ev_int h e1
      have h2 := ev_int h e2
      have h3 := ev_int h e3
      have g1 : (if q > p then q else p) = max p q := by split <;> omega
      have g2 : (if r > max p q then r else max p q) = max (max p q) r := by split <;> omega
      simp [execOp, ho, resolve, invoke, builtin, h1, h2, h3, Builtin.max_, Builtin.max2, g1, g2]
    · exact hvc.elim
  · exact hvc.elim
theorem op_min {c : Call} (ho : o.op = .call c) (hb : c.callee = .builtin .min) (h : StO C n F ok0 w0 ok β s a w) (hd : ∀ d, o.dst = some d → d < n) (hvc : VC C own o s.ev s.η k)
    (hK : ∀ u a' w', k u → St C n F ok0 w0 (s.app o.dst u) a' w' → K a' w') : o.wp C.P a w K Q := by
  obtain ⟨callee, args, argTypes⟩ := c
  subst hb
  simp only [VC, ho] at hvc
  split at hvc
  · rename_i x y eA
    have hargs : args = #[x, y] := by
      apply Array.ext'
      simpa using eA
    subst hargs
    split at hvc
    · rename_i p q e1 e2
      refine wp_read h hd hK (v := .int .i64 (min p q)) ?_ hvc (by rw [R, RP]) (by intro κ hκ; cases hκ)
      have h1 := ev_int h e1
      have h2 := ev_int h e2
      have : (if q < p then q else p) = min p q := by split <;> omega
      simp [execOp, ho, resolve, invoke, builtin, h1, h2, Builtin.min_, Builtin.min2, this]
    · exact hvc.elim
  · exact hvc.elim
end
end Go.Vc
