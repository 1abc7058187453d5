/- A calculus of verification conditions, part 11: stores, append. -/
import Derived.Test.YtcdbgkcijelopaaDoorVca
import Derived.Laws.CopyRow
set_option linter.unusedVariables false
namespace Go.Vc
open Go Go.RowKit

section
variable {C : Cx} {n : Nat} {F : Fm} {ok0 : Nat → Prop} {w0 : World} {ok : Nat → Prop} {β : Nat → Value} {s : S} {a : Act} {w : World} {own : Nat → Bool} {o : Oper} {k : U → Prop} {K : Act → World → Prop} {Q : Exit → Act → World → Prop}

/-- The block of an object of one's own is none of what is let be, and none that was there. -/
theorem mine_block (h : StO C n F ok0 w0 ok β s a w) {κ b : Nat} (hm : (s.η κ).mine = true) (hb : blockOf (β κ) = some b) : ¬ ok b ∧ may F w0 b ∧ ∀ κ', (s.η κ').live = true → blockOf (β κ') = some b → κ' = κ := by
  have hob := h.η κ
  have h1 : ¬ ok b ∧ may F w0 b := by
    cases e : s.η κ with
    | no => rw [e] at hm; simp [AO.mine] at hm
    | var own' t x =>
      rw [e] at hob hm
      obtain ⟨b', v, q1, q2, q3, q4, q5, _⟩ := hob
      rw [q1] at hb
      have : b' = b := by simpa [blockOf] using hb
      subst this
      exact ⟨q4, q5 (by simpa [AO.mine] using hm)⟩
    | mp t sk L =>
      rw [e] at hob
      obtain ⟨r, es, clock, q1, _, q3, q4, _⟩ := hob
      rw [q1] at hb
      have : r = b := by simpa [blockOf] using hb
      subst this
      exact ⟨q3, q4⟩
    | row t sz L =>
      rw [e] at hob
      obtain ⟨_, ⟨xs, q1, _⟩, q2⟩ := hob
      have hown : (β κ).ownBlock = some b := by
        rcases q1.2 with ⟨q3, _⟩ | ⟨g, cap, cur, q3, _⟩
        · rw [q3] at hb; simp [blockOf] at hb
        · rw [q3] at hb ⊢; simpa [blockOf, Value.ownBlock] using hb
      exact q2 b hown
  refine ⟨h1.1, h1.2, fun κ' hl hb' => ?_⟩
  cases e : (s.η κ').mine with
  | true => exact h.dis κ' κ b e hm hb' hb
  | false =>
    cases e2 : s.η κ' with
    | no => rw [e2] at hl; simp [AO.live] at hl
    | row t sz L => rw [e2] at e; simp [AO.mine] at e
    | mp t sk L => rw [e2] at e; simp [AO.mine] at e
    | var own' t x =>
      rw [e2] at e
      simp only [AO.mine] at e
      subst e
      exact absurd h1.2 (h.ro κ' t x b e2 hb')
/-- An object of one's own has turned. -/
theorem StO.reobj (hC : CxOk C) (h : StO C n F ok0 w0 ok β s a w) {κ b : Nat} {o' : AO} {w' : World} (hm : (s.η κ).mine = true) (hm' : o'.mine = true) (hb : blockOf (β κ) = some b) (hsame : ∀ b', b' ≠ b → w'.heap[b']? = w.heap[b']?) (hsz : w'.heap.size = w.heap.size)
    (hos : w'.os = w.os ∧ w'.tape = w.tape ∧ w'.output = w.output) (hob : OB C ok β w' (may F w0) κ o') (hk : ∀ κ' ∈ o'.keys, (s.η κ').live = true) : StO C n F ok0 w0 ok β (s.set κ o') a w' := by
  obtain ⟨q1, q2, q3⟩ := mine_block h hm hb
  have hst : Stay ok w w' := fun b' hb' _ => hsame b' fun e => q1 (e ▸ hb')
  have hbel : Keep F w0 w' := h.below.step hos.1 hos.2.1 hos.2.2 (by omega) fun i hi hm2 => hsame i fun e => hm2 (e ▸ q2)
  have hl : ∀ κ', (s.η κ').live = true → ((s.set κ o').η κ').live = true := by
    intro κ' hκ'
    rw [S.set_η]
    split
    · exact mine_live hm'
    · exact hκ'
  exact
    { lt := fun b' hb' => by have := h.lt b' hb'; omega
      new := h.new
      old := h.old
      gx := GX_stay hC h.gx hst h.lt fun _ h => h
      defers := h.defers
      size := h.size
      ρ := fun t => R_stay (fun _ h => h) hst (h.ρ t)
      η := fun κ' => by
        rw [S.set_η]
        by_cases e : κ' = κ
        · rw [if_pos e]; subst e; exact hob
        · rw [if_neg e]
          exact OB_move (h.η κ') (fun _ => rfl) (fun _ _ => rfl) (fun _ h => h) hst (fun b' hl' hb' hlt => hsame b' fun e' => e (q3 κ' hl' (e' ▸ hb'))) (fun _ _ _ _ hn => hn)
      ro := fun κ' t x b' hη hb' => by
        rw [S.set_η] at hη
        by_cases e : κ' = κ
        · rw [if_pos e] at hη; subst hη; simp [AO.mine] at hm'
        · rw [if_neg e] at hη; exact h.ro κ' t x b' hη hb'
      dis := fun κ' κ'' b' h1 h2 h3 h4 => by
        have hmm : ∀ q, ((s.set κ o').η q).mine = true → (s.η q).mine = true := by
          intro q hq
          rw [S.set_η] at hq
          by_cases e : q = κ
          · rw [e]; exact hm
          · rwa [if_neg e] at hq
        exact h.dis κ' κ'' b' (hmm _ h1) (hmm _ h2) h3 h4
      wf := ⟨fun t κ' hκ' => hl κ' (h.wf.ρ t κ' hκ'), fun t κ' hκ' => by
        rw [S.set_η] at hκ'
        split at hκ'
        · exact hl κ' (hk κ' hκ')
        · exact hl κ' (h.wf.η t κ' hκ')⟩
      below := hbel
      n2 := h.n2
      pin := h.pin }
theorem setRow_same (w : World) (g : Nat) (cs : Array Value) {b : Nat} (h : b ≠ g) : (w.setRow g cs).heap[b]? = w.heap[b]? := by
  simp only [World.setRow, Array.getElem?_modify]
  rw [if_neg (by omega)]
theorem setRow_at {w : World} {g : Nat} {cur : Array Value} {t : TypeId} {fr : Nat × Nat} (h : w.heap[g]? = some (.cells cur t fr)) (cs : Array Value) : (w.setRow g cs).heap[g]? = some (.cells cs t fr) := by
  simp only [World.setRow, Array.getElem?_modify]
  simp [h]
theorem setRow_size (w : World) (g : Nat) (cs : Array Value) : (w.setRow g cs).heap.size = w.heap.size := by simp [World.setRow]
theorem run_storeVar {P : Program} {t : TypeId} {ti : TI} (hT : TyOk P t ti) {w : World} {g off : Nat} {e : TypeId} {cur : Array Value} {v : Value} (hg : w.heap[g]? = some (.cells cur e (0, 0))) (hs : v.cells.size = ti.sz) (hle : off + v.cells.size ≤ cur.size) (h1 : ∀ u ∈ v.cells.toList, one u) :
    (storeVar t ⟨g, off, none⟩ v).run P w = .ok () (w.setRow g (cur.toList.take off ++ (v.cells.toList ++ cur.toList.drop (off + v.cells.size))).toArray) := by
  have := run_storeCells_at (P := P) g off e v.cells.toList 0 cur w hg (by simpa using hle) (fun u hu => h1 u hu)
  unfold storeVar
  simp only [Sem.run_bind, hT.size, Result.andThen_ok, hs, ne_eq, not_true_eq_false, if_false]
  simpa [hs] using this
theorem op_store (hC : CxOk C) {t : TypeId} {x y : Operand} (ho : o.op = .store t x y) (h : StO C n F ok0 w0 ok β s a w) (hvc : VC C own o s.ev s.η k)
    (hK : ∀ u a' w', k u → St C n F ok0 w0 (s.app o.dst u) a' w' → K a' w') : o.wp C.P a w K Q := by
  simp only [VC, ho] at hvc
  split at hvc
  · rename_i ti ed eT
    have hT := hC.ty _ _ eT
    have hrx := ev_R h x
    have hry := ev_R h y
    have hky := ev_keys h y
    split at hvc
    · rename_i κ off e
      split at hvc
      · rename_i t' z eη
        obtain ⟨hsh, hvc⟩ := hvc
        have hob := h.η κ
        rw [eη] at hob
        obtain ⟨b, v, hb, hheap, hz, hnok, hbase, hone, hty⟩ := hob
        rw [e, R] at hrx
        obtain ⟨b', hb', hv⟩ := hrx
        have : b' = b := by rw [hb] at hb'; simpa using hb'.symm
        subst this
        obtain ⟨g1, g2, g3, g4⟩ := R_shape hry hsh
        have hbk : blockOf (β κ) = some b' := by rw [hb]; rfl
        have hmine : (s.η κ).mine = true := by rw [eη]; rfl
        cases hc : (Nat.beq t t' && Nat.beq off 0) with
        | true =>
          rw [hc] at hvc
          simp only [Bool.and_eq_true, Nat.beq_eq] at hc
          obtain ⟨rfl, rfl⟩ := hc
          obtain ⟨q1, q2, q3⟩ := hty ti eT
          have hlen : (a.eval y).cells.size = v.cells.size := by rw [g2, q1]
          have hrun := run_storeVar hT hheap (off := 0) g2 (by omega) g1
          have hw' : (v.cells.toList.take 0 ++ ((a.eval y).cells.toList ++ v.cells.toList.drop (0 + (a.eval y).cells.size))).toArray = (a.eval y).cells := by
            rw [Nat.zero_add, hlen, List.drop_eq_nil_of_le (by simp)]
            simp
          rw [hw'] at hrun
          refine wp_skip (w' := w.setRow b' (a.eval y).cells) (by simp [execOp, ho, hv, Instr.storeAt, Instr.sureAddr, hrun]) (hK _ _ _ hvc ?_)
          rw [ed]
          refine ⟨ok, β, h.reobj hC hmine rfl hbk (fun b2 hb2 => setRow_same _ _ _ hb2) (setRow_size _ _ _) ⟨rfl, rfl, rfl⟩ ⟨b', a.eval y, hb, setRow_at hheap _, R_stay (fun _ h => h) (fun b2 hb2 _ => setRow_same _ _ _ fun e2 => hnok (by rw [← e2]; exact hb2)) hry, hnok, hbase, g1, fun ti' e' => ?_⟩ hky⟩
          rw [eT] at e'
          cases e'
          exact ⟨g2, g3, g4⟩
        | false =>
          rw [hc] at hvc
          simp only [cond_false] at hvc
          split at hvc
          · rename_i cs xs ecs exs
            obtain ⟨hle, ⟨ti', eT', hagg⟩, hvc⟩ := hvc
            have hcs := cells_R hz ecs
            have hxs := cells_R hry exs
            have hl1 := RL_length hcs
            have hl2 := RL_length hxs
            have hl1' : v.cells.size = cs.length := by simpa using hl1
            have hl2' : (a.eval y).cells.size = xs.length := by simpa using hl2
            have hrun := run_storeVar hT hheap (off := off) g2 (by omega) g1
            obtain ⟨vs, hvs⟩ : ∃ vs, vs = v.cells.toList.take off ++ ((a.eval y).cells.toList ++ v.cells.toList.drop (off + (a.eval y).cells.size)) := ⟨_, rfl⟩
            rw [← hvs] at hrun
            obtain ⟨w', hw'⟩ : ∃ w', w' = w.setRow b' vs.toArray := ⟨_, rfl⟩
            rw [← hw'] at hrun
            refine wp_skip (w' := w') (by simp [execOp, ho, hv, Instr.storeAt, Instr.sureAddr, hrun]) (hK _ _ _ hvc ?_)
            rw [ed]
            have hsame : ∀ b2, b2 ≠ b' → w'.heap[b2]? = w.heap[b2]? := fun b2 hb2 => by rw [hw']; exact setRow_same _ _ _ hb2
            have hst : Stay ok w w' := fun b2 hb2 _ => hsame b2 fun e2 => hnok (by rw [← e2]; exact hb2)
            have hnew : RL ok β w' (cs.take off ++ (xs ++ cs.drop (off + xs.length))) vs := by
              rw [hvs]
              refine RL_append (RL_take _ (RL_stay (fun _ h => h) hst hcs)) (RL_append (RL_stay (fun _ h => h) hst hxs) ?_)
              rw [hl2']
              exact RL_drop _ (RL_stay (fun _ h => h) hst hcs)
            have hone' : ∀ u ∈ vs, one u := by
              intro u hu
              rw [hvs] at hu
              simp only [List.mem_append] at hu
              rcases hu with hu | hu | hu
              · exact hone u (List.mem_of_mem_take hu)
              · exact g1 u hu
              · exact hone u (List.mem_of_mem_drop hu)
            have hszn : vs.length = v.cells.size := by
              rw [hvs]
              simp; omega
            have hat : w'.heap[b']? = some (.cells (Value.agg vs.toArray).cells t' (0, 0)) := by rw [hw']; exact setRow_at hheap _
            refine ⟨ok, β, h.reobj hC hmine rfl hbk hsame (by rw [hw']; exact setRow_size _ _ _) (by rw [hw']; exact ⟨rfl, rfl, rfl⟩) ⟨b', .agg vs.toArray, hb, hat, ofCells_R hnew hone', hnok, hbase, by simpa [Value.cells] using hone', fun ti2 e' => ?_⟩ ?_⟩
            · obtain ⟨q1, q2, q3⟩ := hty ti2 e'
              rw [eT'] at e'
              cases e'
              refine ⟨by rw [← q1, ← hszn]; simp [Value.cells], fun _ => rfl, fun ha => ?_⟩
              rw [hagg] at ha
              cases ha
            · intro κ' hκ'
              have hκ' := ofCells_keys hκ'
              simp only [keysL_append, List.mem_append] at hκ'
              have hzk : ∀ κ' ∈ SV.keysL cs, (s.η κ').live = true := fun κ' hκ' => h.wf.η κ κ' (by rw [eη]; exact cells_keys ecs hκ')
              rcases hκ' with hκ' | hκ' | hκ'
              · exact hzk κ' (keysL_sub (fun q hq => List.mem_of_mem_take hq) hκ')
              · exact hky κ' (cells_keys exs hκ')
              · exact hzk κ' (keysL_sub (fun q hq => List.mem_of_mem_drop hq) hκ')
          · exact hvc.elim
      · exact hvc.elim
    · rename_i κ sz i e
      split at hvc
      · rename_i t' sz' L z eη ey
        obtain ⟨hlt, rfl, hszt, hsh, hvc⟩ := hvc
        have hob := h.η κ
        rw [eη] at hob
        obtain ⟨hpos, ⟨xs, hrow, hrr⟩, hnok⟩ := hob
        rw [e, R] at hrx
        obtain ⟨g, m, cap0, hβ, hv⟩ := hrx
        obtain ⟨cap, cur, hβ2, hg, hheap, c1, c2, c3, c4⟩ : ∃ cap cur, β κ = .slice (some ⟨g, 0, none⟩) L.length cap ∧ 0 ≤ g ∧ w.heap[g]? = some (.cells cur t' (0, 0)) ∧ L.length ≤ cap ∧ cap ≤ maxLen ∧ cur.size = cap * sz ∧ cur.toList.take (L.length * sz) = xs := by
          rcases hrow.2 with ⟨q, _⟩ | ⟨g', cap, cur, q, q2, q3, q4, q5, q6, q7⟩
          · rw [q] at hβ; simp at hβ
          · rw [q] at hβ
            simp only [Value.slice.injEq, Option.some.injEq, Addr.mk.injEq] at hβ
            obtain ⟨⟨rfl, _⟩, _⟩ := hβ
            exact ⟨cap, cur, q, q2, q3, q4, q5, q6, q7⟩
        rw [add_plain, Nat.zero_add] at hv
        rw [ey] at hry
        have hry' := hry
        rw [R] at hry'
        have hsh' : (s.ev y).shape = some (ti.agg, ti.sz) := by rw [ey]; simp [SV.shape, hsh]
        obtain ⟨g1, g2, g3, g4⟩ := R_shape (h := ev_R h y) hsh'
        have hcs : (a.eval y).cells.size = sz := by rw [g2, hszt]
        have hmul : i * sz + sz ≤ L.length * sz := by
          rw [← Nat.succ_mul]
          exact Nat.mul_le_mul_right _ hlt
        have hmul2 : L.length * sz ≤ cap * sz := Nat.mul_le_mul_right _ c1
        have hrun := run_storeVar hT hheap (off := i * sz) g2 (by omega) g1
        obtain ⟨vs, hvs⟩ : ∃ vs, vs = cur.toList.take (i * sz) ++ ((a.eval y).cells.toList ++ cur.toList.drop (i * sz + (a.eval y).cells.size)) := ⟨_, rfl⟩
        rw [← hvs] at hrun
        obtain ⟨w', hw'⟩ : ∃ w', w' = w.setRow g vs.toArray := ⟨_, rfl⟩
        rw [← hw'] at hrun
        refine wp_skip (w' := w') (by simp [execOp, ho, hv, Instr.storeAt, Instr.sureAddr, hrun]) (hK _ _ _ hvc ?_)
        rw [ed]
        have hbk : blockOf (β κ) = some g := by rw [hβ2]; rfl
        have hng : ¬ ok g := (hnok g (by rw [hβ2]; rfl)).1
        have hmine : (s.η κ).mine = true := by rw [eη]; rfl
        have hsame : ∀ b2, b2 ≠ g → w'.heap[b2]? = w.heap[b2]? := fun b2 hb2 => by rw [hw']; exact setRow_same _ _ _ hb2
        have hst : Stay ok w w' := fun b2 hb2 _ => hsame b2 fun e2 => hng (by rw [← e2]; exact hb2)
        have hvl : vs.length = cap * sz := by
          rw [hvs]
          have : cur.toList.length = cap * sz := by simpa using c3
          simp only [List.length_append, List.length_take, List.length_drop, this, Array.length_toList, hcs]
          omega
        refine ⟨ok, β, h.reobj hC hmine rfl hbk hsame (by rw [hw']; exact setRow_size _ _ _) (by rw [hw']; exact ⟨rfl, rfl, rfl⟩) ⟨hpos, ⟨vs.take ((L.set i z).length * sz), ⟨by rw [List.length_take, List.length_set, hvl]; omega, ?_⟩, ?_⟩, hnok⟩ (by intro κ' hκ'; cases hκ')⟩
        · refine .inr ⟨g, cap, vs.toArray, by rw [hβ2, List.length_set], hg, by rw [hw']; exact setRow_at hheap _, by rw [List.length_set]; exact c1, c2, by simpa using hvl, by simp⟩
        · refine ⟨by rw [List.length_take, List.length_set, hvl]; omega, fun j x hx => ?_⟩
          have hjl : j < L.length := by
            have := (List.getElem?_eq_some_iff.1 hx).1
            simpa using this
          have hmulj : j * sz + sz ≤ L.length * sz := by
            rw [← Nat.succ_mul]
            exact Nat.mul_le_mul_right _ hjl
          rw [List.getElem?_set] at hx
          have hcl : cur.toList.length = cap * sz := by simpa using c3
          by_cases hji : i = j
          · subst hji
            rw [if_pos rfl, if_pos hlt] at hx
            simp only [Option.some.injEq] at hx
            subst hx
            refine ⟨a.eval y, RP_stay (fun _ h => h) hst hry', ?_⟩
            rw [List.length_set, List.drop_take, List.take_take, hvs]
            rw [List.drop_append, List.drop_eq_nil_of_le (by rw [List.length_take]; omega), List.nil_append]
            rw [List.length_take, hcl, show i * sz - min (i * sz) (cap * sz) = 0 by omega, List.drop_zero, show min sz (L.length * sz - i * sz) = sz by omega]
            have hyl : (a.eval y).cells.toList.length = sz := by rw [Array.length_toList, hcs]
            rw [List.take_append_of_le_length (by omega)]
            rw [List.take_of_length_le (by omega)]
          · rw [if_neg hji] at hx
            obtain ⟨c, hc, hce⟩ := hrr.2 j x hx
            refine ⟨c, RP_stay (fun _ h => h) hst hc, ?_⟩
            rw [hce, ← c4, List.length_set]
            have hmm : j * sz + sz ≤ i * sz ∨ i * sz + sz ≤ j * sz := by
              rcases Nat.lt_or_gt_of_ne hji with hh | hh
              · right
                rw [← Nat.succ_mul]
                exact Nat.mul_le_mul_right _ hh
              · left
                rw [← Nat.succ_mul]
                exact Nat.mul_le_mul_right _ hh
            have hyl : (a.eval y).cells.toList.length = sz := by rw [Array.length_toList, hcs]
            apply List.ext_getElem?
            intro q
            by_cases hq : q < sz
            · rw [List.getElem?_take_of_lt hq, List.getElem?_take_of_lt hq, List.getElem?_drop, List.getElem?_drop, List.getElem?_take_of_lt (by omega), List.getElem?_take_of_lt (by omega), hvs]
              rcases hmm with hmm | hmm
              · rw [List.getElem?_append_left (by rw [List.length_take]; omega), List.getElem?_take_of_lt (by omega)]
              · rw [List.getElem?_append_right (by rw [List.length_take]; omega), List.getElem?_append_right (by rw [List.length_take]; omega), List.getElem?_drop]
                congr 1
                rw [List.length_take]
                omega
            · rw [List.getElem?_eq_none (by rw [List.length_take]; omega), List.getElem?_eq_none (by rw [List.length_take]; omega)]
      · exact hvc.elim
    · exact hvc.elim
  · exact hvc.elim
end
end Go.Vc
