/- A calculus of verification conditions, part 13: calls. -/
import Derived.Test.YtcdbgkcijelopaaDoorVcc
set_option linter.unusedVariables false
namespace Go.Vc
open Go Go.RowKit

section
variable {C : Cx} {n : Nat} {F : Fm} {ok0 : Nat → Prop} {w0 : World} {ok : Nat → Prop} {β : Nat → Value} {s : S} {a : Act} {w : World} {own : Nat → Bool} {o : Oper} {k : U → Prop} {K : Act → World → Prop} {Q : Exit → Act → World → Prop}

theorem RL_LEL : ∀ {xs ys : List SV} {vs : List Value}, LEL xs ys → RL ok β w xs vs → RL ok β w ys vs
  | [], [], vs, _, h => h
  | [], _ :: _, _, h, _ => h.elim
  | _ :: _, [], _, h, _ => h.elim
  | x :: xs, y :: ys, [], _, h => h.elim
  | x :: xs, y :: ys, v :: vs, h, h' => ⟨h.1 _ _ _ _ h'.1, RL_LEL h.2 h'.2⟩
theorem LEL.refl : ∀ xs : List SV, LEL xs xs
  | [] => trivial
  | x :: xs => ⟨LE.refl x, LEL.refl xs⟩
theorem view_R {ok' : Nat → Prop} {x : SV} {v : Value} (h : StO C n F ok0 w0 ok β s a w) (hr : R ok β w x v) (hok : ∀ b, ok b → ok' b) (hb : ∀ κ b, x = .slc κ → (β κ).ownBlock = some b → ok' b) : R ok' β w (view s.η x) v := by
  have hr' := R_stay hok (Stay.refl _ _) hr
  unfold view
  split
  · rename_i κ
    split
    · rename_i t sz L e
      have hob := h.η κ
      rw [e] at hob
      obtain ⟨_, ⟨xs, h1, h2⟩, _⟩ := hob
      rw [R] at hr
      obtain ⟨rfl, _⟩ := hr
      rw [R]
      exact row_lst h1 h2 hok fun b hb' => hb κ b rfl hb'
    · exact hr'
  · exact hr'
theorem LE_nil : LE (.p .nilS) (.p (.lst [])) := fun ok β w v hr => by
  rw [R, RP] at hr
  rw [R, RP, hr]
  exact ⟨none, 0, 0, rfl, Nat.le_refl _, by simp [maxLen], trivial⟩
theorem RL_map_p' {ok : Nat → Prop} : ∀ {xs : List PV} {vs : List Value}, RPL ok w xs vs → RL ok β w (xs.map .p) vs := RL_map_p
theorem op_call (hC : CxOk C) {c : Call} {f : Operand} (ho : o.op = .call c) (hb : c.callee = .value f) (h : StO C n F ok0 w0 ok β s a w) (hd : ∀ d, o.dst = some d → d < n) (hvc : VC C own o s.ev s.η k)
    (hK : ∀ u a' w', k u → St C n F ok0 w0 (s.app o.dst u) a' w' → K a' w') : o.wp C.P a w K Q := by
  obtain ⟨callee, args, argTypes⟩ := c
  subst hb
  simp only [VC, ho, SV.forceL_eq] at hvc
  split at hvc
  · exact hvc.elim
  · rename_i d ed
    split at hvc
    · rename_i f' caps ef
      obtain ⟨r, ⟨ηc, args', hle, hpc, hηc, hlive, hkeys, hscal⟩, hvc⟩ := hvc
      have hηc : ∀ κ, ηc κ = .no ∨ ηc κ = (s.η κ).ro := fun κ => (hηc κ).imp id And.right
      have hno : s.η d = .no := by
        split at hvc
        · assumption
        · exact hvc.elim
      rw [hno] at hvc
      simp only at hvc
      have hrf := ev_R h f
      rw [ef, R] at hrf
      obtain ⟨vcaps, e1, hcaps⟩ := hrf
      have hargs : RL ok β w (args.toList.map s.ev ++ caps) (args.toList.map a.eval ++ vcaps) := by
        refine RL_append ?_ hcaps
        induction args.toList with
        | nil => trivial
        | cons x l ih => exact ⟨ev_R h x, ih⟩
      -- what the callee may lean on
      obtain ⟨okc, hokc⟩ : ∃ okc : Nat → Prop, okc = fun b => ok b ∨ ∃ κ, SV.slc κ ∈ args.toList.map s.ev ++ caps ∧ (s.η κ).mine = true ∧ (β κ).ownBlock = some b := ⟨_, rfl⟩
      have hsub : ∀ b, ok b → okc b := fun b hb => by rw [hokc]; exact .inl hb
      have hview : ∀ {xs : List SV} {vs : List Value}, (∀ x ∈ xs, x ∈ args.toList.map s.ev ++ caps) → RL ok β w xs vs → RL okc β w (xs.map (view s.η)) vs := by
        intro xs
        induction xs with
        | nil => intro vs _ hr; cases vs with | nil => trivial | cons _ _ => exact hr.elim
        | cons x xs ih =>
          intro vs hm hr
          cases vs with
          | nil => exact hr.elim
          | cons v vs =>
            refine ⟨?_, ih (fun y hy => hm y (List.mem_cons_of_mem _ hy)) hr.2⟩
            by_cases hx : ∃ κ, x = .slc κ ∧ (s.η κ).mine = true
            · obtain ⟨κ, rfl, hmine⟩ := hx
              refine view_R h hr.1 hsub fun κ' b hκ hb => ?_
              cases hκ
              rw [hokc]
              exact .inr ⟨κ, hm _ (List.mem_cons_self ..), hmine, hb⟩
            · unfold view
              split
              · rename_i κ
                split
                · rename_i t sz L e
                  exact absurd ⟨κ, rfl, by rw [e]; rfl⟩ hx
                · exact R_stay hsub (Stay.refl _ _) hr.1
              · exact R_stay hsub (Stay.refl _ _) hr.1
      have hlt : ∀ b, okc b → b < w.heap.size := by
        intro b hb
        rw [hokc] at hb
        rcases hb with hb | ⟨κ, _, hm, hb⟩
        · exact h.lt b hb
        · exact OB_lt (h.η κ) (mine_live hm) (ownBlock_blockOf hb)
      have hgx : GX C okc w := GX_stay hC h.gx (Stay.refl _ _) h.lt hsub
      have hobs : ∀ κ, OB C okc β w (fun b => w.heap.size ≤ b) κ (ηc κ) := by
        intro κ
        rcases hηc κ with e | e
        · rw [e]; trivial
        · rw [e]
          have hob := h.η κ
          cases e2 : s.η κ with
          | no => trivial
          | row t sz L => trivial
          | mp t sk L => trivial
          | var own' t x =>
            rw [e2] at hob
            obtain ⟨b, v, q1, q2, q3, q4, q5, q6⟩ := hob
            refine ⟨b, v, q1, q2, R_stay hsub (Stay.refl _ _) q3, ?_, by simp, q6⟩
            rw [hokc]
            rintro (hb | ⟨κ', _, hm, hb⟩)
            · exact q4 hb
            · have := (mine_block h hm (ownBlock_blockOf hb)).2.2 κ (by rw [e2]; rfl) (by rw [q1]; rfl)
              subst this
              rw [q1] at hb
              simp [Value.ownBlock] at hb
      have hvs : RL okc β w args' (args.toList.map a.eval ++ vcaps) := RL_LEL hle (hview (fun x hx => hx) hargs)
      have hcall := hpc.run okc β w _ hgx hlt hvs hobs hlive hkeys (fun κ => by
        rcases hηc κ with e | e
        · rw [e]; rfl
        · rw [e]; cases s.η κ <;> rfl)
      obtain ⟨fn, hf1, hf2, hf3⟩ := hpc.fn
      have hexec : (execOp a.eval o).run C.P w = .ok (.enter f' (args.toList.map a.eval ++ vcaps).toArray) w := by
        have harr : args.map a.eval ++ vcaps.toArray = (args.toList.map a.eval ++ vcaps).toArray := by
          apply Array.ext'
          simp
        simp only [execOp, ho, resolve, Sem.run_bind, e1, Deferred.ofValue, Sem.run_pure, Result.andThen_ok, invoke, callFunc, run_program, hf1, hf2, hf3]
        simp [harr]
      unfold Oper.wp
      rw [hexec, Oper.upon_enter]
      refine hcall.mono ?_
      rintro e w' ⟨v, rfl, hres, hbel⟩
      show K (a.put o.dst v) w'
      have hbel0 := below_w h.below hbel
      have hkeep : ∀ b, b < w.heap.size → (ok b ∨ ∃ κ, (s.η κ).live = true ∧ blockOf (β κ) = some b) → w'.heap[b]? = w.heap[b]? := fun b hlt _ => hbel.block b hlt
      have hnewb : ∀ b, w.heap.size ≤ b → ∀ κ, (s.η κ).live = true → blockOf (β κ) ≠ some b := fun b hb κ hl hbk => by have := OB_lt (h.η κ) hl hbk; omega
      refine hK _ _ _ hvc ?_
      rw [ed]
      have hsame := h.world hC (ok' := ok) hbel0 hbel.size hkeep (fun _ h => h) (fun _ h => .inl h)
      by_cases hsc : r.scalar = true
      · cases r with
        | pv x =>
          have hx : R ok β w' (.p x) v := by
            cases x <;> simp [Res.scalar] at hsc <;> (simp only [RES, RP] at hres; simp only [R, RP]; exact hres)
          exact ⟨ok, β, hsame.put (hd d ed) hx (by intro κ hκ; cases hκ)⟩
        | fresh t sz L => simp [Res.scalar] at hsc
        | tup xs => simp [Res.scalar] at hsc
      · have hns : ∀ x ∈ args.toList.map s.ev ++ caps, noSlc x = true := hscal.resolve_left hsc
        have hokeq : okc = ok := by
          rw [hokc]
          funext b
          simp only [eq_iff_iff]
          constructor
          · rintro (hb | ⟨κ, hm, _⟩)
            · exact hb
            · have := hns _ hm
              simp [noSlc] at this
          · exact .inl
        rw [hokeq] at hres
        have hall := h.world hC (ok' := fun b => ok b ∨ w.heap.size ≤ b ∧ b < w'.heap.size) hbel0 hbel.size hkeep (fun _ h => .inl h) (fun b hb => by
          rcases hb with hb | hb
          · exact .inl hb
          · exact .inr ⟨hb.2, .inr (Nat.le_trans h.below.size hb.1), hnewb b hb.1⟩)
        cases r with
        | pv x => exact ⟨_, _, hall.put (hd d ed) hres (by intro κ hκ; cases hκ)⟩
        | tup xs =>
          obtain ⟨vs, rfl, hr⟩ := hres
          refine ⟨_, _, hall.put (hd d ed) (x := .tupS (xs.map .p)) ?_ ?_⟩
          · rw [R]; exact ⟨vs, rfl, RL_map_p hr⟩
          · intro κ hκ
            simp [SV.keys, keysL_map_p] at hκ
        | fresh t sz L =>
          obtain ⟨hpos, xs, hrow, hrr⟩ := hres
          cases ho' : own d with
          | false =>
            refine ⟨_, _, hall.put (hd d ed) (x := .p (.lst L)) (row_lst hrow hrr (fun b hb => hb.1) fun b hb => .inr ⟨(hrow.lt b hb).1, (hrow.lt b hb).2⟩) (by intro κ hκ; cases hκ)⟩
          | true =>
            have hw2 := h.world hC (ok' := fun b => (ok b ∨ w.heap.size ≤ b ∧ b < w'.heap.size) ∧ v.ownBlock ≠ some b) hbel0 hbel.size hkeep (fun b hb => ⟨.inl hb, fun e => by have := (hrow.lt b e).1; have := h.lt b hb; omega⟩) (fun b hb => by
              rcases hb.1 with hb | hb
              · exact .inl hb
              · exact .inr ⟨hb.2, .inr (Nat.le_trans h.below.size hb.1), hnewb b hb.1⟩)
            have hrow2 : w'.ownsRow 0 t sz v L.length xs := by
              obtain ⟨q1, q2⟩ := hrow
              refine ⟨q1, ?_⟩
              rcases q2 with q2 | ⟨g, cap, cur, q3, q4, q5⟩
              · exact .inl q2
              · exact .inr ⟨g, cap, cur, q3, Nat.zero_le _, q5⟩
            exact ⟨_, _, hw2.addrow (hd d ed) (Nat.lt_of_lt_of_le (hd d ed) h.n2) hno hpos hrow2 hrr fun b hb => ⟨fun hc => hc.2 hb, .inr (Nat.le_trans h.below.size (hrow.lt b hb).1), hnewb b (hrow.lt b hb).1⟩⟩
    · exact hvc.elim
end
end Go.Vc
