/- A calculus of verification conditions, part 8: structs and variables made. -/
import Derived.Test.YtcdbgkcijelopaaDoorVc7
import Derived.Laws.Tables
set_option linter.unusedVariables false
namespace Go.Vc
open Go Go.RowKit

section
variable {C : Cx} {n : Nat} {F : Fm} {ok0 : Nat → Prop} {w0 : World} {ok : Nat → Prop} {β : Nat → Value} {s : S} {a : Act} {w : World} {own : Nat → Bool} {o : Oper} {k : U → Prop} {K : Act → World → Prop} {Q : Exit → Act → World → Prop}

theorem places_eq {P : Program} : ∀ {fs : List Field} {flds : List (Nat × Nat)}, fs.map (fun f => (f.offset, (P.info? f.type).map (·.size))) = flds.map (fun x => (x.1, some x.2)) →
    fs.mapM (fun f => (P.info? f.type).map fun i => (f.offset, i.size)) = some flds
  | [], [], _ => rfl
  | [], _ :: _, h => by simp at h
  | _ :: _, [], h => by simp at h
  | f :: fs, x :: flds, h => by
    simp only [List.map_cons, List.cons.injEq, Prod.mk.injEq] at h
    obtain ⟨⟨h1, h2⟩, h3⟩ := h
    have ih := places_eq h3
    cases e : P.info? f.type with
    | none => rw [e] at h2; simp at h2
    | some i =>
      rw [e] at h2
      simp at h2
      simp [List.mapM_cons, e, ih, h1, h2]
theorem fill_R {flds : List (Nat × Nat)} : ∀ {parts : List (Nat × SV)} {vparts : List (Nat × Value)} {cs cs' : List SV} {vs : List Value}, fillS flds cs parts = some cs' → oneCells parts →
    vparts.map (·.1) = parts.map (·.1) → RL ok β w (parts.map (·.2)) (vparts.map (·.2)) → RL ok β w cs vs → (∀ u ∈ vs, one u) →
    ∃ vs', Instr.fill (flds.toArray[·]?) vs.toArray vparts = some vs'.toArray ∧ RL ok β w cs' vs' ∧ (∀ u ∈ vs', one u)
  | [], [], cs, cs', vs, h, _, _, _, hr, h1 => by
    simp only [fillS, Option.some.injEq] at h
    subst h
    exact ⟨vs, rfl, hr, h1⟩
  | [], _ :: _, cs, cs', vs, h, _, he, _, hr, h1 => by simp at he
  | _ :: _, [], cs, cs', vs, h, _, he, _, hr, h1 => by simp at he
  | (i, x) :: parts, (i', v) :: vparts, cs, cs', vs, h, hone, he, hrp, hr, h1 => by
    simp only [List.map_cons, List.cons.injEq] at he
    obtain ⟨rfl, he⟩ := he
    simp only [fillS] at h
    split at h
    · rename_i off ef
      cases hb : Nat.blt off cs.length with
      | false => rw [hb] at h; simp at h
      | true =>
        rw [hb] at h
        simp only [cond_true] at h
        have hlt : off < cs.length := by simpa [Nat.blt_eq] using hb
        have hv : one v := (R_shape hrp.1 hone.1).2.2.2 rfl
        have hlen := RL_length hr
        obtain ⟨vs', g1, g2, g3⟩ := fill_R (vs := vs.set off v) h hone.2 he hrp.2 (RL_set off hr hrp.1) (fun u hu => by
          rcases List.mem_or_eq_of_mem_set hu with hu | hu
          · exact h1 u hu
          · rw [hu]; exact hv)
        refine ⟨vs', ?_, g2, g3⟩
        have hsz : off + 1 ≤ vs.length := by omega
        simp only [Instr.fill, List.getElem?_toArray, ef, one_cells hv]
        simp only [List.size_toArray, List.length_cons, List.length_nil]
        rw [if_neg (by simp; omega)]
        rw [← g1]
        congr 1
        case e_place => funext j; simp
        case e_cells =>
          show vs.toArray.setIfInBounds (off + 0) v = _
          simp
    · simp at h
theorem op_build (hC : CxOk C) {t : TypeId} {parts : Array (Nat × Operand)} (ho : o.op = .build t parts) (h : StO C n F ok0 w0 ok β s a w) (hd : ∀ d, o.dst = some d → d < n) (hvc : VC C own o s.ev s.η k)
    (hK : ∀ u a' w', k u → St C n F ok0 w0 (s.app o.dst u) a' w' → K a' w') : o.wp C.P a w K Q := by
  simp only [VC, ho] at hvc
  split at hvc
  · exact hvc.elim
  · rename_i ti eT
    obtain ⟨hk, hone, hvc⟩ := hvc
    split at hvc
    · rename_i cs ecs
      split at hvc
      · rename_i cs' ef
        obtain ⟨i, d, z, h1, h2, h3, h4, h5, h6, h7, h8, _, _⟩ := (hC.ty _ _ eT).out
        have hz : R ok β w (.p ti.zero) z := by rw [← h6]; exact cv_R z
        have hzo := RP_one (by rw [R] at hz; exact hz)
        cases d <;> simp only [KindOk] at h8
        case struct fs =>
          have hcs := cells_R hz ecs
          have hrp : RL ok β w ((parts.toList.map fun x => (x.1, s.ev x.2)).map (·.2)) ((parts.toList.map fun x => (x.1, a.eval x.2)).map (·.2)) := by
            induction parts.toList with
            | nil => trivial
            | cons x l ih => exact ⟨ev_R h x.2, ih⟩
          obtain ⟨vs', g1, g2, g3⟩ := fill_R (ok := ok) (β := β) (w := w) (vparts := parts.toList.map fun x => (x.1, a.eval x.2)) ef hone (by simp [Function.comp_def]) hrp hcs hzo.1
          have hbuilt : C.P.built t (parts.map fun (i, x) => (i, a.eval x)).toList = some vs'.toArray := by
            simp only [Program.built, h1, h2, h5, places_eq h8.2.2]
            rw [← g1]
            simp
          refine wp_build t parts ho (by rw [hbuilt]; rfl) ?_
          rw [hbuilt]
          refine hK _ _ _ hvc (St_put h hd (ofCells_R g2 g3) ?_)
          intro κ hκ
          have hκ := ofCells_keys hκ
          have key : ∀ (parts : List (Nat × Operand)) (cs cs' : List SV), fillS ti.flds cs (parts.map fun x => (x.1, s.ev x.2)) = some cs' → (∀ κ ∈ SV.keysL cs, (s.η κ).live = true) → ∀ κ ∈ SV.keysL cs', (s.η κ).live = true := by
            intro parts
            induction parts with
            | nil => intro cs cs' e hcs; simp only [List.map_nil, fillS, Option.some.injEq] at e; subst e; exact hcs
            | cons x l ih =>
              intro cs cs' e hcs
              simp only [List.map_cons, fillS] at e
              split at e
              · rename_i off _
                cases hb : Nat.blt off cs.length with
                | false => rw [hb] at e; simp at e
                | true =>
                  rw [hb] at e
                  refine ih _ _ e fun κ hκ => ?_
                  have : ∀ l : List SV, (∀ y ∈ l, ∀ κ ∈ y.keys, (s.η κ).live = true) → ∀ κ ∈ SV.keysL l, (s.η κ).live = true := by
                    intro l
                    induction l with
                    | nil => intro _ κ hκ; simp [SV.keysL] at hκ
                    | cons y l ih =>
                      intro hl κ hκ
                      simp only [SV.keysL, List.mem_append] at hκ
                      rcases hκ with hκ | hκ
                      · exact hl y (List.mem_cons_self ..) κ hκ
                      · exact ih (fun z hz => hl z (List.mem_cons_of_mem _ hz)) κ hκ
                  refine this _ (fun y hy κ hκ => ?_) κ hκ
                  rcases List.mem_or_eq_of_mem_set hy with hy | hy
                  · exact hcs κ (keysL_mem hy hκ)
                  · rw [hy] at hκ; exact ev_keys h x.2 κ hκ
              · simp at e
          refine key _ _ _ ef (fun κ hκ => ?_) κ hκ
          have := cells_keys ecs hκ
          simp [SV.keys] at this
        all_goals omega
      · exact hvc.elim
    · exact hvc.elim

theorem op_alloc (hC : CxOk C) {t : TypeId} (ho : o.op = .alloc t) (h : StO C n F ok0 w0 ok β s a w) (hd : ∀ d, o.dst = some d → d < n) (hvc : VC C own o s.ev s.η k)
    (hK : ∀ u a' w', k u → St C n F ok0 w0 (s.app o.dst u) a' w' → K a' w') : o.wp C.P a w K Q := by
  simp only [VC, ho] at hvc
  split at hvc
  · rename_i d ti ed eT
    split at hvc
    · rename_i eη
      obtain ⟨z, h1, h2, h3, h4, hag⟩ := (hC.ty _ _ eT).zero w
      have hz : R ok β w (.p ti.zero) z := by rw [← h2]; exact cv_R z
      have hzo := RP_one (by rw [R] at hz; exact hz)
      refine wp_value (v := .pointer (some ⟨w.heap.size, 0, none⟩)) (w' := w.alloc (.cells z.cells t)) ?_ (hK _ _ _ hvc ?_)
      · simp [execOp, ho, Instr.alloc, h1, newVar, newRow]
      · rw [ed]
        exact ⟨ok, _, h.alloc hC (hd d ed) eη hz hzo.1 (fun ti' e' => by rw [eT] at e'; cases e'; exact ⟨h3, hag, h4⟩) (by intro κ hκ; cases hκ)⟩
    · exact hvc.elim
  · exact hvc.elim
theorem op_box (hC : CxOk C) {t : TypeId} {x : Operand} (ho : o.op = .box t x) (h : StO C n F ok0 w0 ok β s a w) (hd : ∀ d, o.dst = some d → d < n) (hvc : VC C own o s.ev s.η k)
    (hK : ∀ u a' w', k u → St C n F ok0 w0 (s.app o.dst u) a' w' → K a' w') : o.wp C.P a w K Q := by
  simp only [VC, ho] at hvc
  split at hvc
  · rename_i d ti ed eT
    split at hvc
    · rename_i eη
      obtain ⟨hsh, hvc⟩ := hvc
      have hr := ev_R h x
      obtain ⟨g1, g2, g3, g4⟩ := R_shape hr hsh
      refine wp_value (v := .pointer (some ⟨w.heap.size, 0, none⟩)) (w' := w.alloc (.cells (a.eval x).cells t)) ?_ (hK _ _ _ hvc ?_)
      · simp [execOp, ho, Instr.box, newVar, newRow]
      · rw [ed]
        exact ⟨ok, _, h.alloc hC (hd d ed) eη hr g1 (fun ti' e' => by rw [eT] at e'; cases e'; exact ⟨g2, g3, g4⟩) (ev_keys h x)⟩
    · exact hvc.elim
  · exact hvc.elim
end
end Go.Vc
