/- A calculus of verification conditions, part 10: slices made, appended to; stores. -/
import Derived.Test.YtcdbgkcijelopaaDoorVc9
set_option linter.unusedVariables false
namespace Go.Vc
open Go Go.RowKit

section
variable {C : Cx} {n : Nat} {F : Fm} {ok0 : Nat → Prop} {w0 : World} {ok : Nat → Prop} {β : Nat → Value} {s : S} {a : Act} {w : World} {own : Nat → Bool} {o : Oper} {k : U → Prop} {K : Act → World → Prop} {Q : Exit → Act → World → Prop}

def flat (vs : List Value) : List Value := vs.flatMap fun v => v.cells.toList
theorem flat_length {sz : Nat} : ∀ {vs : List Value}, (∀ v ∈ vs, v.cells.size = sz) → (flat vs).length = vs.length * sz
  | [], _ => by simp [flat]
  | v :: vs, h => by
    have ih := flat_length (vs := vs) fun u hu => h u (List.mem_cons_of_mem _ hu)
    have h1 := h v (List.mem_cons_self ..)
    simp only [flat, List.flatMap_cons, List.length_append, List.length_cons] at ih ⊢
    rw [ih, Nat.succ_mul]
    simp [h1]
    omega
theorem flat_get {sz : Nat} : ∀ {vs : List Value} {i : Nat} {v : Value}, (∀ v ∈ vs, v.cells.size = sz) → vs[i]? = some v → ((flat vs).drop (i * sz)).take sz = v.cells.toList
  | [], i, v, _, h => by simp at h
  | u :: vs, 0, v, hs, h => by
    simp at h
    subst h
    have h1 := hs u (List.mem_cons_self ..)
    simp only [flat, List.flatMap_cons, Nat.zero_mul, List.drop_zero]
    rw [List.take_append_of_le_length (by simp [h1])]
    rw [List.take_of_length_le (by simp [h1])]
  | u :: vs, i + 1, v, hs, h => by
    have ih := flat_get (i := i) (v := v) (fun u hu => hs u (List.mem_cons_of_mem _ hu)) (by simpa using h)
    have h1 := hs u (List.mem_cons_self ..)
    simp only [flat, List.flatMap_cons] at ih ⊢
    rw [Nat.succ_mul, List.drop_append, List.drop_eq_nil_of_le (by simp [h1])]
    simp only [List.nil_append, Array.length_toList, h1]
    rw [show i * sz + sz - sz = i * sz by omega]
    exact ih
theorem foldl_put : ∀ (xs : List Value) (j off : Nat) (cells : List Value), off + j + xs.length ≤ cells.length →
    ((xs.zipIdx j).foldl (fun cs (c : Value × Nat) => cs.setIfInBounds (off + c.2) c.1) cells.toArray) = (cells.take (off + j) ++ xs ++ cells.drop (off + j + xs.length)).toArray
  | [], j, off, cells, h => by simp
  | x :: xs, j, off, cells, h => by
    simp only [List.length_cons] at h
    simp only [List.zipIdx_cons, List.foldl_cons]
    rw [show cells.toArray.setIfInBounds (off + j) x = (cells.set (off + j) x).toArray by simp]
    rw [foldl_put xs (j + 1) off _ (by simp; omega)]
    congr 1
    have hl : (cells.take (off + j)).length = off + j := by rw [List.length_take]; omega
    rw [List.set_eq_take_append_cons_drop, if_pos (by omega)]
    have e1 : (cells.take (off + j) ++ x :: cells.drop (off + j + 1)).take (off + (j + 1)) = cells.take (off + j) ++ [x] := by
      rw [List.take_append, hl, List.take_of_length_le (by omega)]
      rw [show off + (j + 1) - (off + j) = 1 by omega]
      rfl
    have e2 : (cells.take (off + j) ++ x :: cells.drop (off + j + 1)).drop (off + (j + 1) + xs.length) = cells.drop (off + j + (xs.length + 1)) := by
      rw [List.drop_append, hl, List.drop_eq_nil_of_le (by omega), List.nil_append]
      rw [show off + (j + 1) + xs.length - (off + j) = xs.length + 1 by omega, List.drop_succ_cons, List.drop_drop]
      congr 1
      omega
    rw [e1, e2]
    simp
theorem fill_row {sz : Nat} : ∀ {vs : List Value} {j : Nat} {cells : List Value}, (∀ v ∈ vs, v.cells.size = sz) → (j + vs.length) * sz ≤ cells.length →
    Instr.fill (fun i => some (i * sz, sz)) cells.toArray ((vs.zipIdx j).map fun x => (x.2, x.1)) = some (cells.take (j * sz) ++ flat vs ++ cells.drop ((j + vs.length) * sz)).toArray
  | [], j, cells, _, h => by simp [Instr.fill, flat]
  | v :: vs, j, cells, hs, h => by
    have h1 := hs v (List.mem_cons_self ..)
    have hle : j * sz + sz + vs.length * sz ≤ cells.length := by
      simp only [List.length_cons] at h
      rw [show (j + (vs.length + 1)) * sz = j * sz + sz + vs.length * sz by rw [Nat.add_mul, Nat.succ_mul]; omega] at h
      exact h
    simp only [List.zipIdx_cons, List.map_cons, Instr.fill, h1, List.size_toArray]
    rw [if_neg (by simp; omega)]
    have hf : Array.foldl (fun cs (x : Value × Nat) => cs.setIfInBounds (j * sz + x.2) x.1) cells.toArray v.cells.zipIdx = (cells.take (j * sz) ++ v.cells.toList ++ cells.drop (j * sz + sz)).toArray := by
      rw [← Array.foldl_toList, Array.toList_zipIdx]
      have := foldl_put v.cells.toList 0 (j * sz) cells (by simp [h1]; omega)
      simpa [h1] using this
    rw [hf, fill_row (fun u hu => hs u (List.mem_cons_of_mem _ hu)) (by
      simp [h1]
      rw [show (j + 1 + vs.length) * sz = j * sz + sz + vs.length * sz by rw [Nat.add_mul, Nat.add_mul]; omega]
      omega)]
    congr 2
    have e1 : (j + 1) * sz = j * sz + sz := by rw [Nat.add_mul]; omega
    have e2 : (j + 1 + vs.length) * sz = j * sz + sz + vs.length * sz := by rw [Nat.add_mul, Nat.add_mul]; omega
    have e3 : (j + (v :: vs).length) * sz = j * sz + sz + vs.length * sz := by simp only [List.length_cons]; rw [Nat.add_mul, Nat.add_mul]; omega
    have hl : (cells.take (j * sz) ++ v.cells.toList).length = j * sz + sz := by simp [h1]; omega
    rw [e1, e2, e3]
    rw [List.take_append_of_le_length (by omega), List.take_of_length_le (by omega)]
    rw [List.drop_append, List.drop_eq_nil_of_le (by omega), hl, List.nil_append, List.drop_drop]
    simp only [flat, List.flatMap_cons, List.append_assoc]
    congr 3
    congr 1
    omega
theorem partsIn_spec (h : StO C n F ok0 w0 ok β s a w) : ∀ {parts : List (Nat × Operand)} {j : Nat} {L : List PV}, partsIn s.ev j parts = some L →
    ∃ vs, RPL ok w L vs ∧ parts.map (fun x => (x.1, a.eval x.2)) = (vs.zipIdx j).map fun x => (x.2, x.1)
  | [], j, L, e => by
    simp only [partsIn, Option.some.injEq] at e
    subst e
    exact ⟨[], trivial, rfl⟩
  | (i, x) :: r, j, L, e => by
    simp only [partsIn] at e
    rw [beq_ite] at e
    split at e
    · rename_i hij
      subst hij
      split at e
      · rename_i y ey
        obtain ⟨M, e2, rfl⟩ := Option.map_eq_some_iff.1 e
        obtain ⟨vs, h1, h2⟩ := partsIn_spec h e2
        have hr := ev_R h x
        rw [ey, R] at hr
        refine ⟨a.eval x :: vs, ⟨hr, h1⟩, ?_⟩
        simp [h2]
      · cases e
    · cases e
theorem allSz_get {sh : Bool × Nat} : ∀ {L : List PV} {i : Nat} {y : PV}, allSz sh L → L[i]? = some y → y.shape = sh
  | [], i, y, _, h => by simp at h
  | z :: L, 0, y, h, e => by simp at e; subst e; exact h.1
  | z :: L, i + 1, y, h, e => allSz_get h.2 (by simpa using e)
theorem allSz_sizes {sh : Bool × Nat} : ∀ {L : List PV} {vs : List Value}, allSz sh L → RPL ok w L vs → ∀ v ∈ vs, v.cells.size = sh.2
  | [], [], _, _ => fun v hv => by cases hv
  | [], _ :: _, _, h => h.elim
  | _ :: _, [], _, h => h.elim
  | z :: L, u :: vs, h, hr => fun v hv => by
    cases hv with
    | head => rw [(RP_one hr.1).2.1, h.1]
    | tail _ hv => exact allSz_sizes h.2 hr.2 v hv
theorem RRow_flat {sz : Nat} {L : List PV} {vs : List Value} (h : RPL ok w L vs) (hs : ∀ v ∈ vs, v.cells.size = sz) : RRow ok w sz L (flat vs) := by
  refine ⟨by rw [flat_length hs, RPL_length h], fun i x hx => ?_⟩
  obtain ⟨v, hv, hr⟩ := RPL_get h hx
  exact ⟨v, hr, (flat_get hs hv).symm⟩
theorem op_buildSlice (hC : CxOk C) {t : TypeId} {m : Nat} {parts : Array (Nat × Operand)} (ho : o.op = .buildSlice t m parts) (h : StO C n F ok0 w0 ok β s a w) (hd : ∀ d, o.dst = some d → d < n) (hvc : VC C own o s.ev s.η k)
    (hK : ∀ u a' w', k u → St C n F ok0 w0 (s.app o.dst u) a' w' → K a' w') : o.wp C.P a w K Q := by
  simp only [VC, ho, PV.forceL_eq] at hvc
  split at hvc
  · rename_i d ti ed eT
    split at hvc
    · rename_i te L eE eL
      obtain ⟨hk, rfl, hle, hpos, hall, hvc⟩ := hvc
      have hu := run_underlying (P := C.P) ((hC.ty _ _ eT).slice hk) w
      have hsz := (hC.ty _ _ eE).size w
      obtain ⟨z, hz, hz2, hz3, _⟩ := (hC.ty _ _ eE).zero w
      obtain ⟨vs, hr, hparts⟩ := partsIn_spec h eL
      have hsizes := allSz_sizes hall hr
      have hlen := RPL_length hr
      obtain ⟨cells, hcells, hrun⟩ : ∃ cells : List Value, cells.length = L.length * te.sz ∧ (execOp a.eval o).run C.P w = .ok (.value (.slice (some ⟨w.heap.size, 0, none⟩) L.length L.length)) (w.alloc (.cells (flat vs).toArray ti.elem)) := by
        let zero : Array Value := if L.length * te.sz = 0 then #[] else z.cells
        refine ⟨(List.range (L.length * te.sz)).map fun i => zero[i % zero.size]!, by simp, ?_⟩
        have hfill := fill_row (sz := te.sz) (vs := vs) (j := 0) (cells := (List.range (L.length * te.sz)).map fun i => zero[i % zero.size]!) hsizes (by simp [hlen])
        have hfl := flat_length hsizes
        simp only [Nat.zero_mul, List.take_zero, List.nil_append, Nat.zero_add] at hfill
        rw [List.drop_eq_nil_of_le (by simp [hlen]), List.append_nil] at hfill
        have hp2 : (parts.map fun x => (x.1, a.eval x.2)).toList = (vs.zipIdx 0).map fun x => (x.2, x.1) := by rw [← hparts]; simp
        have hne : ¬ L.length * te.sz > 2 ^ 24 := by simp; omega
        have harr : (Array.range (L.length * te.sz)).map (zero[· % zero.size]!) = ((List.range (L.length * te.sz)).map fun i => zero[i % zero.size]!).toArray := by
          apply Array.ext'
          simp
        have h2 : (Instr.buildSlice t L.length (parts.map fun x => (x.1, a.eval x.2))).run C.P w = .ok (.slice (some ⟨w.heap.size, 0, none⟩) L.length L.length) (w.alloc (.cells (flat vs).toArray ti.elem)) := by
          by_cases h0 : L.length * te.sz = 0
          · have hz0 : zero = #[] := if_pos h0
            simp only [Instr.buildSlice, Sem.run_bind, hu, hsz, Result.andThen_ok, if_neg hne, Sem.run_pure, if_pos h0, hp2]
            rw [← hz0, harr, hfill]
            simp [newRow]
          · have hz0 : zero = z.cells := if_neg h0
            simp only [Instr.buildSlice, Sem.run_bind, hu, hsz, Result.andThen_ok, if_neg hne, Sem.run_pure, if_neg h0, hp2, hz]
            rw [← hz0, harr, hfill]
            simp [newRow]
        simp only [execOp, ho, Sem.run_bind, h2, Result.andThen_ok, Sem.run_pure]
      have hb : Below w.heap.size w (w.alloc (.cells (flat vs).toArray ti.elem)) := (Below.refl _ _).alloc (Nat.le_refl _) _
      have hrow : (w.alloc (.cells (flat vs).toArray ti.elem)).ownsRow 0 ti.elem te.sz (.slice (some ⟨w.heap.size, 0, none⟩) L.length L.length) L.length (flat vs) := by
        have hm : L.length ≤ maxLen := by
          simp only [maxLen]
          have : L.length * 1 ≤ L.length * te.sz := Nat.mul_le_mul_left _ hpos
          omega
        have := World.ownsRow_lit (base := 0) (e := ti.elem) (size := te.sz) w (flat vs).toArray L.length (Nat.zero_le _) hm (by simp [flat_length hsizes, hlen])
        simpa using this
      have hst : Stay ok w (w.alloc (.cells (flat vs).toArray ti.elem)) := fun b _ hlt => hb.block b hlt
      have hrr := RRow_stay (fun _ h => h) hst (RRow_flat hr hsizes)
      cases ho' : own d with
      | true =>
        rw [ho'] at hvc
        simp only [cond_true] at hvc
        split at hvc
        · rename_i eη
          have h1 := h.world hC (ok' := ok) (below_w h.below hb) hb.size (fun b hlt _ => hb.block b hlt) (fun _ h => h) (fun _ h => .inl h)
          refine wp_value hrun (hK _ _ _ hvc ?_)
          rw [ed]
          refine ⟨ok, _, h1.addrow (hd d ed) (Nat.lt_of_lt_of_le (hd d ed) h.n2) eη hpos hrow hrr fun b hb' => ?_⟩
          have : b = w.heap.size := by simpa [Value.ownBlock] using hb'.symm
          subst this
          exact ⟨fun hc => by have := h.lt _ hc; omega, .inr h.below.size, fun κ hl hbk => by have := OB_lt (h.η κ) hl hbk; omega⟩
        · exact hvc.elim
      | false =>
        rw [ho'] at hvc
        simp only [cond_false] at hvc
        have h1 := h.world hC (ok' := fun b => ok b ∨ b = w.heap.size) (below_w h.below hb) hb.size (fun b hlt _ => hb.block b hlt) (fun _ h => .inl h) (fun b hb' => by
          rcases hb' with h1 | rfl
          · exact .inl h1
          · exact .inr ⟨by simp, .inr h.below.size, fun κ hl hbk => by have := OB_lt (h.η κ) hl hbk; omega⟩)
        refine wp_value hrun (hK _ _ _ hvc ?_)
        rw [ed]
        refine ⟨_, _, h1.put (hd d ed) (row_lst hrow hrr (fun _ h => .inl h) fun b hb' => .inr ?_) (by intro κ hκ; cases hκ)⟩
        simpa [Value.ownBlock] using hb'.symm
    · exact hvc.elim
  · exact hvc.elim
end
end Go.Vc
