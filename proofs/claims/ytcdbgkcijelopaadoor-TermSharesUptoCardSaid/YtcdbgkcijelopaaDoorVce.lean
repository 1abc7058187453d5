/- A calculus of verification conditions, part 14: a region in the order of its text; rows that become lists. -/
import Derived.Test.YtcdbgkcijelopaaDoorVck
set_option linter.unusedVariables false
namespace Go.Vc
open Go Go.RowKit

section
variable {C : Cx} {n : Nat} {F : Fm} {ok0 : Nat → Prop} {w0 : World} {ok : Nat → Prop} {β : Nat → Value} {s : S} {a : Act} {w : World} {own : Nat → Bool} {o : Oper} {k : U → Prop} {K : Act → World → Prop} {Q : Exit → Act → World → Prop}

theorem op_sound (hC : CxOk C) (h : StO C n F ok0 w0 ok β s a w) (hd : ∀ d, o.dst = some d → d < n) (hvc : VC C own o s.ev s.η k)
    (hK : ∀ u a' w', k u → St C n F ok0 w0 (s.app o.dst u) a' w' → K a' w') : o.wp C.P a w K Q := by
  cases e : o.op with
  | move x => exact op_mv hC (.inl e) h hd hvc hK
  | assign x => exact op_mv hC (.inr e) h hd hvc hK
  | convert t t' x => exact op_convert hC e h hd hvc hK
  | pick c x y => exact op_pick e h hd hvc hK
  | alloc t => exact op_alloc hC e h hd hvc hK
  | box t x => exact op_box hC e h hd hvc hK
  | load t x => exact op_load hC e h hd hvc hK
  | store t x y => exact op_store hC e h hvc hK
  | nilCheck x => exact op_nilCheck e h hd hvc hK
  | binOp op t x y t' => exact op_binOp hC e h hd hvc hK
  | unOp op t x => exact op_unOp e h hd hvc hK
  | makeFunc f fi ca => exact op_makeFunc e h hd hvc hK
  | fieldAddr t x f => exact op_fieldAddr hC e h hd hvc hK
  | indexAddr t x ix => exact op_indexAddr hC e h hd hvc hK
  | index t x ix => exact op_index hC e h hd hvc hK
  | slice t x lo hi mx => exact op_slice hC e h hd hvc hK
  | extract x i => exact op_extract e h hd hvc hK
  | build t parts => exact op_build hC e h hd hvc hK
  | buildSlice t m parts => exact op_buildSlice hC e h hd hvc hK
  | call c =>
    obtain ⟨callee, args, argTypes⟩ := c
    cases callee with
    | value f => exact op_call hC e rfl h hd hvc hK
    | invoke r m => simp only [VC, e] at hvc
    | builtin b =>
      cases b with
      | len => exact op_len hC e rfl h hd hvc hK
      | append => exact op_append hC e rfl h hd hvc hK
      | max => exact op_max e rfl h hd hvc hK
      | min => exact op_min e rfl h hd hvc hK
      | _ => simp only [VC, e] at hvc
  | _ => simp only [VC, e] at hvc

/-- A test's outcome, once known, stands for the test. -/
theorem StO.refine (h : StO C n F ok0 w0 ok β s a w) {g : Nat} {x : PV} (e : s.ρ g = .p x) : StO C n F ok0 w0 ok β (s.put g (.p x)) a w := by
  have : s.put g (.p x) = s := by
    cases s with
    | mk ρ η =>
      simp only [S.put, S.mk.injEq, and_true]
      funext t
      rw [beq_ite]
      split
      · rename_i ht; subst ht; exact e.symm
      · rfl
  rw [this]
  exact h
theorem yielded_of (h : StO C n F ok0 w0 ok β s a w) {ops : Array Oper} {j g : Nat} {b : Bool} (hg : (ops[j]?).bind (·.dst) = some g) (e : s.ρ g = .p (.bool b)) : yielded ops a.tmps j = some b := by
  have h1 := h.ρ g
  rw [e, R, RP] at h1
  unfold yielded
  rw [hg]
  simp only [Option.bind_some]
  rw [Array.getD_eq_getD_getElem?] at h1
  cases e2 : a.tmps[g]? with
  | none => rw [e2] at h1; simp [undef] at h1
  | some v =>
    rw [e2] at h1
    simp only [Option.getD_some] at h1
    rw [h1]
/-! ### A row becomes a plain list -/
theorem RPL_of_allP : ∀ {l : List SV} {ps : List PV}, allP l = some ps → l = ps.map .p
  | [], ps, e => by simp [allP] at e; subst e; rfl
  | x :: l, ps, e => by
    cases x with
    | p y =>
      simp only [allP, Option.map_eq_some_iff] at e
      obtain ⟨qs, e1, rfl⟩ := e
      rw [RPL_of_allP e1]
      rfl
    | _ => simp [allP] at e
mutual
theorem sub_R {ok' : Nat → Prop} {κ : Nat} {L : List PV} (hok : ∀ b, ok b → ok' b) (hL : RP ok' w (.lst L) (β κ)) : ∀ {x : SV} {v : Value}, R ok β w x v → R ok' β w (x.sub κ L) v
  | .no, v, h => trivial
  | .p x, v, h => RP_stay hok (Stay.refl _ _) h
  | .elt y, v, h => R_stay (x := .elt y) hok (Stay.refl _ _) h
  | .eltF y f, v, h => R_stay (x := .eltF y f) hok (Stay.refl _ _) h
  | .glob g, v, h => h
  | .nilQ M, v, h => h
  | .ptr κ' off, v, h => by
    simp only [SV.sub]
    rw [beq_ite]
    split
    · trivial
    · exact h
  | .rowE κ' sz i, v, h => by
    simp only [SV.sub]
    rw [beq_ite]
    split
    · trivial
    · exact h
  | .slc κ', v, h => by
    simp only [SV.sub]
    rw [beq_ite]
    split
    · rename_i e
      subst e
      rw [R] at h
      rw [R, h.1]
      exact hL
    · exact h
  | .fn f caps, v, h => by
    rw [R] at h
    obtain ⟨vs, h1, h2⟩ := h
    simp only [SV.sub]
    rw [R]
    exact ⟨vs, h1, subL_R hok hL h2⟩
  | .tupS cs, v, h => by
    rw [R] at h
    obtain ⟨vs, h1, h2⟩ := h
    simp only [SV.sub]
    rw [R]
    exact ⟨vs, h1, subL_R hok hL h2⟩
  | .mix cs, v, h => by
    rw [R] at h
    obtain ⟨vs, rfl, h1, h2⟩ := h
    exact ofCells_R (subL_R hok hL h2) h1
theorem subL_R {ok' : Nat → Prop} {κ : Nat} {L : List PV} (hok : ∀ b, ok b → ok' b) (hL : RP ok' w (.lst L) (β κ)) : ∀ {xs : List SV} {vs : List Value}, RL ok β w xs vs → RL ok' β w (SV.subL κ L xs) vs
  | [], [], h => trivial
  | [], _ :: _, h => h.elim
  | _ :: _, [], h => h.elim
  | x :: xs, v :: vs, h => ⟨sub_R hok hL h.1, subL_R hok hL h.2⟩
end
mutual
theorem sub_keys {κ : Nat} {L : List PV} : ∀ (x : SV) (κ' : Nat), κ' ∈ (x.sub κ L).keys → κ' ∈ x.keys ∧ κ' ≠ κ
  | .no, κ', h => by simp [SV.sub, SV.keys] at h
  | .p x, κ', h => by simp [SV.sub, SV.keys] at h
  | .elt y, κ', h => by simp [SV.sub, SV.keys] at h
  | .eltF y f, κ', h => by simp [SV.sub, SV.keys] at h
  | .glob g, κ', h => by simp [SV.sub, SV.keys] at h
  | .nilQ M, κ', h => by simp [SV.sub, SV.keys] at h
  | .ptr q off, κ', h => by
    simp only [SV.sub, beq_ite] at h
    split at h
    · simp [SV.keys] at h
    · simp only [SV.keys, List.mem_singleton] at h ⊢
      subst h
      exact ⟨rfl, by assumption⟩
  | .rowE q sz i, κ', h => by
    simp only [SV.sub, beq_ite] at h
    split at h
    · simp [SV.keys] at h
    · simp only [SV.keys, List.mem_singleton] at h ⊢
      subst h
      exact ⟨rfl, by assumption⟩
  | .slc q, κ', h => by
    simp only [SV.sub, beq_ite] at h
    split at h
    · simp [SV.keys] at h
    · simp only [SV.keys, List.mem_singleton] at h ⊢
      subst h
      exact ⟨rfl, by assumption⟩
  | .fn f caps, κ', h => by
    simp only [SV.sub, SV.keys] at h ⊢
    exact subL_keys caps κ' h
  | .tupS cs, κ', h => by
    simp only [SV.sub, SV.keys] at h ⊢
    exact subL_keys cs κ' h
  | .mix cs, κ', h => by
    simp only [SV.sub] at h
    simp only [SV.keys]
    exact subL_keys cs κ' (ofCells_keys h)
theorem subL_keys {κ : Nat} {L : List PV} : ∀ (l : List SV) (κ' : Nat), κ' ∈ SV.keysL (SV.subL κ L l) → κ' ∈ SV.keysL l ∧ κ' ≠ κ
  | [], κ', h => by simp [SV.subL, SV.keysL] at h
  | x :: xs, κ', h => by
    simp only [SV.subL, SV.keysL, List.mem_append] at h ⊢
    rcases h with h | h
    · have := sub_keys x κ' h
      exact ⟨.inl this.1, this.2⟩
    · have := subL_keys xs κ' h
      exact ⟨.inr this.1, this.2⟩
end
/-- A row becomes a plain list. -/
theorem St_frz (hC : CxOk C) (h : St C n F ok0 w0 s a w) (κ : Nat) : St C n F ok0 w0 (s.frz κ) a w := by
  obtain ⟨ok, β, h⟩ := h
  unfold S.frz
  split
  · rename_i t sz L e
    have hob := h.η κ
    rw [e] at hob
    obtain ⟨hpos, ⟨xs, hrow, hrr⟩, hnok⟩ := hob
    have hmine : (s.η κ).mine = true := by rw [e]; rfl
    obtain ⟨ok', hok'⟩ : ∃ ok' : Nat → Prop, ok' = fun b => ok b ∨ (β κ).ownBlock = some b := ⟨_, rfl⟩
    have hsub : ∀ b, ok b → ok' b := fun b hb => by rw [hok']; exact .inl hb
    have hL : RP ok' w (.lst L) (β κ) := row_lst hrow hrr hsub fun b hb => by rw [hok']; exact .inr hb
    have hblk : ∀ b, (β κ).ownBlock = some b → ∀ κ', κ' ≠ κ → (s.η κ').live = true → blockOf (β κ') ≠ some b := fun b hb κ' hne hl hb' => hne ((mine_block h hmine (ownBlock_blockOf hb)).2.2 κ' hl hb')
    have hm : ∀ q, (cond (Nat.beq q κ) AO.no ((s.η q).sub κ L)).mine = true → (s.η q).mine = true ∧ q ≠ κ := by
      intro q hq
      rw [beq_ite] at hq
      split at hq
      · simp [AO.mine] at hq
      · refine ⟨?_, by assumption⟩
        cases e2 : s.η q <;> simp_all [AO.sub, AO.mine]
    have hl2 : ∀ q, (s.η q).live = true → q ≠ κ → (cond (Nat.beq q κ) AO.no ((s.η q).sub κ L)).live = true := by
      intro q hq hne
      rw [beq_ite, if_neg hne]
      cases e2 : s.η q <;> simp_all [AO.sub, AO.live]
    refine ⟨ok', β,
      { lt := fun b hb => by
          rw [hok'] at hb
          rcases hb with hb | hb
          · exact h.lt b hb
          · exact (hrow.lt b hb).2
        new := fun b hb => by
          rw [hok'] at hb
          rcases hb with hb | hb
          · exact h.new b hb
          · exact .inr (mine_block h hmine (ownBlock_blockOf hb)).2.1
        old := fun b hb => hsub b (h.old b hb)
        gx := GX_stay hC h.gx (Stay.refl _ _) h.lt hsub
        defers := h.defers
        size := h.size
        ρ := fun t => sub_R hsub hL (h.ρ t)
        η := fun q => ?_
        ro := fun q t' x b hη hb => ?_
        dis := fun q q' b h1 h2 h3 h4 => h.dis q q' b (hm q h1).1 (hm q' h2).1 h3 h4
        wf := ⟨fun t' q hq => ?_, fun t' q hq => ?_⟩
        below := h.below
        n2 := h.n2
        pin := h.pin }⟩
    · show OB C ok' β w _ q (cond (Nat.beq q κ) AO.no ((s.η q).sub κ L))
      rw [beq_ite]
      split
      · trivial
      · rename_i hne
        have hq := h.η q
        have hnb : ∀ b, (s.η q).live = true → blockOf (β q) = some b → ¬ ok b → ¬ ok' b := by
          intro b hl hb hn hc
          rw [hok'] at hc
          rcases hc with hc | hc
          · exact hn hc
          · exact hblk b hc q hne hl hb
        cases e2 : s.η q with
        | no => trivial
        | row t' sz' L' =>
          rw [e2] at hq
          exact OB_move hq (fun _ => rfl) (fun _ _ => rfl) hsub (Stay.refl _ _) (fun _ _ _ _ => rfl) (fun b _ hb _ hn => hnb b (by rw [e2]; rfl) hb hn)
        | mp t' sk L' =>
          rw [e2] at hq
          exact OB_move hq (fun _ => rfl) (fun _ _ => rfl) hsub (Stay.refl _ _) (fun _ _ _ _ => rfl) (fun b _ hb _ hn => hnb b (by rw [e2]; rfl) hb hn)
        | var own' t' x =>
          rw [e2] at hq
          obtain ⟨b, v, q1, q2, q3, q4, q5⟩ := hq
          exact ⟨b, v, q1, q2, sub_R hsub hL q3, hnb b (by rw [e2]; rfl) (by rw [q1]; rfl) q4, q5⟩
    · change cond (Nat.beq q κ) AO.no ((s.η q).sub κ L) = _ at hη
      rw [beq_ite] at hη
      split at hη
      · cases hη
      · cases e2 : s.η q with
        | no => rw [e2] at hη; cases hη
        | row t' sz' L' => rw [e2] at hη; cases hη
        | mp t' sk L' => rw [e2] at hη; cases hη
        | var own' t'' x' =>
          rw [e2] at hη
          simp only [AO.sub, AO.var.injEq] at hη
          obtain ⟨rfl, rfl, _⟩ := hη
          exact h.ro q _ _ b e2 hb
    · obtain ⟨g1, g2⟩ := sub_keys _ q hq
      exact hl2 q (h.wf.ρ t' q g1) g2
    · change q ∈ AO.keys (cond (Nat.beq t' κ) AO.no ((s.η t').sub κ L)) at hq
      rw [beq_ite] at hq
      split at hq
      · simp [AO.keys] at hq
      · cases e2 : s.η t' with
        | no => rw [e2] at hq; simp [AO.sub, AO.keys] at hq
        | row t'' sz' L' => rw [e2] at hq; simp [AO.sub, AO.keys] at hq
        | mp t'' sk L' => rw [e2] at hq; simp [AO.sub, AO.keys] at hq
        | var own' t'' x' =>
          rw [e2] at hq
          obtain ⟨g1, g2⟩ := sub_keys x' q hq
          exact hl2 q (h.wf.η t' q (by rw [e2]; exact g1)) g2
  · exact ⟨ok, β, h⟩
theorem St_frzL (hC : CxOk C) : ∀ (l : List Nat) {s : S}, St C n F ok0 w0 s a w → St C n F ok0 w0 (s.frzL l) a w
  | [], s, h => h
  | κ :: l, s, h => St_frzL hC l (St_frz hC h κ)
/-- Less may be known. -/
theorem St_ge {σ : S} (h : St C n F ok0 w0 s a w) (hg : Ge s σ) : St C n F ok0 w0 σ a w := by
  obtain ⟨ok, β, h⟩ := h
  have hm : ∀ κ, (σ.η κ).mine = true → (s.η κ).mine = true := by
    intro κ hκ
    rcases hg.η κ with e | e | ⟨own', t, x, y, e1, e2, _⟩
    · rw [e] at hκ; simp [AO.mine] at hκ
    · rwa [e]
    · rw [e2] at hκ; rw [e1]; exact hκ
  refine ⟨ok, β, { h with
      defers := h.defers
      ρ := fun t => hg.ρ t _ _ _ _ (h.ρ t)
      η := fun κ => ?_
      ro := fun κ t x b hη hb => ?_
      dis := fun κ κ' b h1 h2 h3 h4 => h.dis κ κ' b (hm κ h1) (hm κ' h2) h3 h4
      wf := hg.wf }⟩
  · have hob := h.η κ
    rcases hg.η κ with e | e | ⟨own', t, x, y, e1, e2, hle⟩
    · rw [e]; trivial
    · rw [← e]; exact hob
    · rw [e1] at hob
      rw [e2]
      obtain ⟨b, v, q1, q2, q3, q4⟩ := hob
      exact ⟨b, v, q1, q2, hle _ _ _ _ q3, q4⟩
  · rcases hg.η κ with e | e | ⟨own', t', x', y, e1, e2, hle⟩
    · rw [e] at hη; cases hη
    · rw [← e] at hη; exact h.ro κ t x b hη hb
    · rw [e2] at hη
      simp only [AO.var.injEq] at hη
      obtain ⟨rfl, rfl, _⟩ := hη
      exact h.ro κ _ _ b e1 hb

theorem look_mem : ∀ {l : List (Nat × SV)} {t : Nat}, look l t = .no ∨ (t, look l t) ∈ l
  | [], t => .inl rfl
  | (k, x) :: r, t => by
    simp only [look, beq_ite]
    split
    · rename_i e; subst e; exact .inr (List.mem_cons_self ..)
    · exact look_mem.imp id (List.mem_cons_of_mem _)
theorem lookO_mem : ∀ {l : List (Nat × AO)} {t : Nat}, lookO l t = .no ∨ (t, lookO l t) ∈ l
  | [], t => .inl rfl
  | (k, x) :: r, t => by
    simp only [lookO, beq_ite]
    split
    · rename_i e; subst e; exact .inr (List.mem_cons_self ..)
    · exact lookO_mem.imp id (List.mem_cons_of_mem _)
theorem flatL_eq : ∀ (ts : List Nat) (s : S) (k : List (Nat × SV) → Prop), flatL ts s k = k (ts.map fun t => (t, s.ρ t))
  | [], s, k => rfl
  | t :: ts, s, k => by simp only [flatL, SV.force_eq, flatL_eq ts, List.map_cons]
theorem flatO_eq : ∀ (ts : List Nat) (s : S) (k : List (Nat × AO) → Prop), flatO ts s k = k (ts.map fun t => (t, s.η t))
  | [], s, k => rfl
  | t :: ts, s, k => by simp only [flatO, AO.force_eq, flatO_eq ts, List.map_cons]
theorem Ge.keep {s : S} {ts os : List Nat} (hk : okS (ts.map fun t => (t, s.ρ t)) (os.map fun t => (t, s.η t)) = true) : Ge s (S.of (ts.map fun t => (t, s.ρ t)) (os.map fun t => (t, s.η t))) := by
  have h1 : ∀ t, look (ts.map fun t => (t, s.ρ t)) t = .no ∨ look (ts.map fun t => (t, s.ρ t)) t = s.ρ t := by
    intro t
    rcases look_mem (l := ts.map fun t => (t, s.ρ t)) (t := t) with e | e
    · exact .inl e
    · obtain ⟨q, _, e⟩ := List.mem_map.1 e
      simp only [Prod.mk.injEq] at e
      exact .inr (by rw [← e.2, e.1])
  have h2 : ∀ t, lookO (os.map fun t => (t, s.η t)) t = .no ∨ lookO (os.map fun t => (t, s.η t)) t = s.η t := by
    intro t
    rcases lookO_mem (l := os.map fun t => (t, s.η t)) (t := t) with e | e
    · exact .inl e
    · obtain ⟨q, _, e⟩ := List.mem_map.1 e
      simp only [Prod.mk.injEq] at e
      exact .inr (by rw [← e.2, e.1])
  simp only [okS, Bool.and_eq_true, List.all_eq_true] at hk
  refine ⟨fun t => ?_, fun κ => ?_, ⟨fun t κ h => ?_, fun t κ h => ?_⟩⟩
  · show LE (s.ρ t) (look _ t)
    rcases h1 t with e | e
    · rw [e]; intro _ _ _ _ _; trivial
    · rw [e]; exact LE.refl _
  · show OLE (s.η κ) (lookO _ κ)
    rcases h2 κ with e | e
    · rw [e]; exact .inl rfl
    · rw [e]; exact .inr (.inl rfl)
  · change κ ∈ (look _ t).keys at h
    rcases look_mem (l := ts.map fun t => (t, s.ρ t)) (t := t) with e | e
    · rw [e] at h; cases h
    · exact hk.1 _ e κ h
  · change κ ∈ (lookO _ t).keys at h
    rcases lookO_mem (l := os.map fun t => (t, s.η t)) (t := t) with e | e
    · rw [e] at h; cases h
    · exact hk.2 _ e κ h
theorem St_keep {c : Option (List Nat × List Nat)} {k : S → Prop} (h : St C n F ok0 w0 s a w) (hk : keepK c s k) : ∃ σ, St C n F ok0 w0 σ a w ∧ k σ := by
  unfold keepK at hk
  split at hk
  · exact ⟨s, h, hk⟩
  · rename_i ts os
    rw [flatL_eq, flatO_eq] at hk
    exact ⟨_, St_ge h (Ge.keep hk.1), hk.2⟩

/-! ### Objects that are named by their own slots alone -/
theorem only_R {ok' : Nat → Prop} {β' : Nat → Value} {w' : World} {x : SV} {i : Nat} {v : Value} (h : R ok' β' w' x v) : R ok' β' w' (x.only i) v := by
  cases x with
  | ptr κ off =>
    show R ok' β' w' (cond (Nat.beq κ i) (.ptr κ off) .no) v
    cases Nat.beq κ i with
    | true => exact h
    | false => trivial
  | _ => trivial
theorem nrm_LE : ∀ (P : List Nat) (d : Option Nat) (x : SV), LE x (x.nrm P d)
  | [], d, x => LE.refl x
  | i :: P, d, x => fun ok β w v h => by
    refine nrm_LE P d _ ok β w v ?_
    cases d with
    | none => exact purge_R h
    | some q =>
      show R ok β w (cond (Nat.beq q i) (x.only i) (x.purge i)) v
      cases Nat.beq q i with
      | true => exact only_R h
      | false => exact purge_R h
theorem only_keys {x : SV} {i κ : Nat} (h : κ ∈ (x.only i).keys) : κ ∈ x.keys ∧ κ = i := by
  cases x with
  | ptr q off =>
    change κ ∈ (cond (Nat.beq q i) (.ptr q off) SV.no).keys at h
    cases e : Nat.beq q i with
    | true =>
      rw [e] at h
      have : q = i := Nat.eq_of_beq_eq_true e
      have h' : κ ∈ (SV.ptr q off).keys := h
      exact ⟨h', by simp [SV.keys] at h'; omega⟩
    | false => rw [e] at h; cases h
  | _ => cases h
theorem nrm_keys : ∀ (P : List Nat) (d : Option Nat) (x : SV) {κ : Nat}, κ ∈ (x.nrm P d).keys → κ ∈ x.keys ∧ (κ ∈ P → d = some κ)
  | [], d, x, κ, h => ⟨h, fun hc => by cases hc⟩
  | i :: P, d, x, κ, h => by
    obtain ⟨h1, h2⟩ := nrm_keys P d _ h
    cases d with
    | none =>
      obtain ⟨h3, h4⟩ := purge_keys h1
      refine ⟨h3, fun hc => ?_⟩
      rcases List.mem_cons.1 hc with e | hc
      · exact absurd e h4
      · exact h2 hc
    | some q =>
      change κ ∈ (cond (Nat.beq q i) (x.only i) (x.purge i)).keys at h1
      cases e : Nat.beq q i with
      | true =>
        rw [e] at h1
        obtain ⟨h3, h4⟩ := only_keys h1
        refine ⟨h3, fun hc => ?_⟩
        rw [h4, Nat.eq_of_beq_eq_true e]
      | false =>
        rw [e] at h1
        obtain ⟨h3, h4⟩ := purge_keys h1
        refine ⟨h3, fun hc => ?_⟩
        rcases List.mem_cons.1 hc with e | hc
        · exact absurd e h4
        · exact h2 hc
theorem nrmO_OLE (P : List Nat) (o : AO) : OLE o (o.nrm P) := by
  cases o with
  | var own t x => exact .inr (.inr ⟨own, t, x, _, rfl, rfl, nrm_LE P none x⟩)
  | _ => exact .inr (.inl rfl)
theorem nrmO_live (P : List Nat) (o : AO) : (o.nrm P).live = o.live := by cases o <;> rfl
theorem nrmO_keys (P : List Nat) (o : AO) {κ : Nat} (h : κ ∈ (o.nrm P).keys) : κ ∈ o.keys ∧ κ ∉ P := by
  cases o with
  | var own t x =>
    obtain ⟨h1, h2⟩ := nrm_keys P none x h
    exact ⟨h1, fun hc => by cases h2 hc⟩
  | _ => cases h
/-- One state is like another one, less being known here and there. -/
structure Less (s σ : S) : Prop where
  ρ : ∀ t, LE (s.ρ t) (σ.ρ t)
  ρk : ∀ t κ, κ ∈ (σ.ρ t).keys → κ ∈ (s.ρ t).keys
  η : ∀ κ, OLE (s.η κ) (σ.η κ)
  ηl : ∀ κ, (σ.η κ).live = (s.η κ).live
  ηk : ∀ κ q, q ∈ (σ.η κ).keys → q ∈ (s.η κ).keys
theorem Less.ge {s σ : S} (h : Less s σ) (hw : WF s) : Ge s σ :=
  ⟨h.ρ, h.η, ⟨fun t κ hk => by rw [h.ηl]; exact hw.ρ t κ (h.ρk t κ hk), fun t κ hk => by rw [h.ηl]; exact hw.η t κ (h.ηk t κ hk)⟩⟩
theorem OLE.rfl' (o : AO) : OLE o o := .inr (.inl rfl)
theorem S.nrm_less (P : List Nat) (s : S) : Less s (s.nrm P) := by
  cases P with
  | nil => exact ⟨fun t => LE.refl _, fun t κ h => h, fun κ => OLE.rfl' _, fun κ => rfl, fun κ q h => h⟩
  | cons i P => exact ⟨fun t => nrm_LE _ _ _, fun t κ h => (nrm_keys _ _ _ h).1, fun κ => nrmO_OLE _ _, fun κ => nrmO_live _ _, fun κ q h => (nrmO_keys _ _ h).1⟩
theorem St_nrm {P : List Nat} (h : St C n F ok0 w0 s a w) : St C n F ok0 w0 (s.nrm P) a w :=
  St_ge h ((S.nrm_less P s).ge (by obtain ⟨ok, β, h⟩ := h; exact h.wf))
def S.base (s : S) (u : U) : S := match u.kill with | some κ => s.kill κ | none => s
theorem app_ρ (s : S) (d : Option Nat) (u : U) (t : Nat) : (s.app d u).ρ t = if d = some t then u.x else (s.base u).ρ t := by
  obtain ⟨x, obj, st, kill⟩ := u
  unfold S.app S.base
  cases d with
  | none => cases kill <;> cases st <;> simp <;> rfl
  | some q =>
    by_cases e : t = q
    · subst e
      rw [if_pos rfl]
      cases obj <;> simp only [S.put_ρ, if_true]
    · have e' : ¬ (some q = some t) := fun h => e (Option.some.inj h).symm
      rw [if_neg e']
      cases obj <;> cases kill <;> cases st <;> simp only [S.put_ρ, if_neg e] <;> rfl
theorem app_η (s : S) (d : Option Nat) (u : U) (κ : Nat) : (s.app d u).η κ = match (if d = some κ then u.obj else none) with
    | some o => o
    | none => match u.st with
      | some (q, o) => if κ = q then o else (s.base u).η κ
      | none => (s.base u).η κ := by
  obtain ⟨x, obj, st, kill⟩ := u
  unfold S.app S.base
  have hset : ∀ (s : S) (q : Nat) (o : AO), (s.set q o).η κ = if κ = q then o else s.η κ := fun s q o => S.set_η s q o κ
  cases d with
  | none => cases kill <;> cases st <;> simp [hset]
  | some q =>
    by_cases e : κ = q
    · subst e
      rw [if_pos rfl]
      cases obj with
      | none => cases kill <;> cases st <;> simp [S.put, hset]
      | some o => 
        show ((S.set _ κ o).put κ x).η κ = o
        show (S.set _ κ o).η κ = o
        rw [hset, if_pos rfl]
    · have e' : ¬ (some q = some κ) := fun h => e (Option.some.inj h).symm
      rw [if_neg e']
      cases obj with
      | none => cases kill <;> cases st <;> simp [S.put, hset]
      | some o => 
        show (S.set _ q o).η κ = _
        rw [hset, if_neg e]
        cases kill <;> cases st <;> simp [hset]
theorem AO.nrm_nil (o : AO) : o.nrm [] = o := by cases o <;> rfl
theorem U.nrm_kill (P : List Nat) (d : Option Nat) (u : U) : (u.nrm P d).kill = u.kill := by
  cases P with
  | nil => rfl
  | cons i P => obtain ⟨x, obj, st, kill⟩ := u; cases obj <;> cases st <;> rfl
theorem U.nrm_x (P : List Nat) (d : Option Nat) (u : U) : (u.nrm P d).x = u.x.nrm P d := by
  cases P with
  | nil => rfl
  | cons i P => obtain ⟨x, obj, st, kill⟩ := u; cases obj <;> cases st <;> rfl
theorem U.nrm_obj' (P : List Nat) (d : Option Nat) (u : U) : (u.nrm P d).obj = u.obj.map (AO.nrm P) := by
  cases P with
  | nil => cases e : u.obj <;> simp [U.nrm, e, AO.nrm_nil]
  | cons i P => obtain ⟨x, obj, st, kill⟩ := u; cases obj <;> cases st <;> rfl
theorem U.nrm_st (P : List Nat) (d : Option Nat) (u : U) : (u.nrm P d).st = u.st.map (fun z => (z.1, z.2.nrm P)) := by
  cases P with
  | nil => cases e : u.st <;> simp [U.nrm, e, AO.nrm_nil]
  | cons i P => obtain ⟨x, obj, st, kill⟩ := u; cases obj <;> cases st <;> rfl
theorem app_nrm_less (P : List Nat) (s : S) (d : Option Nat) (u : U) : Less (s.app d u) (s.app d (u.nrm P d)) := by
  have hb : s.base (u.nrm P d) = s.base u := by unfold S.base; rw [U.nrm_kill]
  have hη : ∀ κ, (s.app d (u.nrm P d)).η κ = (s.app d u).η κ ∨ (s.app d (u.nrm P d)).η κ = ((s.app d u).η κ).nrm P := by
    intro κ
    rw [app_η, app_η, U.nrm_obj', U.nrm_st, hb]
    by_cases e : d = some κ
    · rw [if_pos e, if_pos e]
      cases u.obj with
      | some o => exact .inr rfl
      | none =>
        cases u.st with
        | none => exact .inl rfl
        | some z =>
          obtain ⟨q, o⟩ := z
          by_cases e2 : κ = q
          · simp [e2]
          · simp [e2]
    · rw [if_neg e, if_neg e]
      cases u.st with
      | none => exact .inl rfl
      | some z =>
        obtain ⟨q, o⟩ := z
        by_cases e2 : κ = q
        · simp [e2]
        · simp [e2]
  refine ⟨fun t => ?_, fun t κ h => ?_, fun κ => ?_, fun κ => ?_, fun κ q h => ?_⟩
  · rw [app_ρ, app_ρ, U.nrm_x, hb]
    split
    · exact nrm_LE _ _ _
    · exact LE.refl _
  · rw [app_ρ, U.nrm_x, hb] at h
    rw [app_ρ]
    split
    · rename_i e
      rw [if_pos e] at h
      exact (nrm_keys _ _ _ h).1
    · rename_i e
      rw [if_neg e] at h
      exact h
  · rcases hη κ with e | e
    · rw [e]; exact OLE.rfl' _
    · rw [e]; exact nrmO_OLE _ _
  · rcases hη κ with e | e
    · rw [e]
    · rw [e]; exact nrmO_live _ _
  · rcases hη κ with e | e
    · rw [e] at h; exact h
    · rw [e] at h; exact (nrmO_keys _ _ h).1
theorem St_nrmU {P : List Nat} {d : Option Nat} {u : U} (h : St C n F ok0 w0 (s.app d u) a w) : St C n F ok0 w0 (s.app d (u.nrm P d)) a w :=
  St_ge h ((app_nrm_less P s d u).ge (by obtain ⟨ok, β, h⟩ := h; exact h.wf))

/-- The objects of P are named by their own slots alone. -/
structure Inv (P : List Nat) (s : S) : Prop where
  ptr : ∀ p ∈ P, s.ρ p = .no ∨ ∃ off, s.ρ p = .ptr p off
  ρ : ∀ p ∈ P, ∀ t, t ≠ p → p ∉ (s.ρ t).keys
  η : ∀ p ∈ P, ∀ κ, p ∉ (s.η κ).keys
def isOwn (p : Nat) (x : SV) : Prop := x = .no ∨ ∃ off, x = .ptr p off
theorem isOwn.purge {p i : Nat} {x : SV} (h : isOwn p x) : isOwn p (x.purge i) := by
  rcases h with rfl | ⟨off, rfl⟩
  · exact .inl rfl
  · show isOwn p (cond (Nat.beq p i) .no (.ptr p off))
    cases Nat.beq p i with
    | true => exact .inl rfl
    | false => exact .inr ⟨off, rfl⟩
theorem only_isOwn (p : Nat) (x : SV) : isOwn p (x.only p) := by
  cases x with
  | ptr κ off =>
    show isOwn p (cond (Nat.beq κ p) (.ptr κ off) .no)
    cases e : Nat.beq κ p with
    | true => exact .inr ⟨off, by rw [Nat.eq_of_beq_eq_true e]; rfl⟩
    | false => exact .inl rfl
  | _ => exact .inl rfl
theorem isOwn.only {p i : Nat} {x : SV} (h : isOwn p x) : isOwn p (x.only i) := by
  rcases h with rfl | ⟨off, rfl⟩
  · exact .inl rfl
  · show isOwn p (cond (Nat.beq p i) (.ptr p off) .no)
    cases Nat.beq p i with
    | true => exact .inr ⟨off, rfl⟩
    | false => exact .inl rfl
theorem isOwn.nrm {p : Nat} : ∀ (P : List Nat) {x : SV}, isOwn p x → isOwn p (x.nrm P (some p))
  | [], x, h => h
  | i :: P, x, h => isOwn.nrm P (by
    show isOwn p (cond (Nat.beq p i) (x.only i) (x.purge i))
    cases Nat.beq p i with
    | true => exact h.only
    | false => exact h.purge)
theorem nrm_isOwn {p : Nat} : ∀ (P : List Nat) {x : SV}, p ∈ P → isOwn p (x.nrm P (some p))
  | i :: P, x, h => by
    by_cases e : p = i
    · subst e
      refine isOwn.nrm P ?_
      show isOwn p (cond (Nat.beq p p) (x.only p) (x.purge p))
      rw [beq_ite, if_pos rfl]
      exact only_isOwn p x
    · rcases List.mem_cons.1 h with e' | h
      · exact absurd e' e
      · exact nrm_isOwn P h
theorem Inv.nil (s : S) : Inv [] s := ⟨fun p hp => (by cases hp), fun p hp => (by cases hp), fun p hp => (by cases hp)⟩
theorem Inv.nrm (P : List Nat) (s : S) : Inv P (s.nrm P) := by
  cases P with
  | nil => exact Inv.nil _
  | cons i P => exact ⟨fun p hp => nrm_isOwn _ hp, fun p hp t ht hc => ht (Option.some.inj ((nrm_keys _ _ _ hc).2 hp)), fun p hp κ hc => (nrmO_keys _ _ hc).2 hp⟩
theorem Inv.base {P : List Nat} {s : S} (h : Inv P s) (u : U) : Inv P (s.base u) := by
  unfold S.base
  split
  · rename_i κ _
    refine ⟨fun p hp => isOwn.purge (h.ptr p hp), fun p hp t ht hc => h.ρ p hp t ht (purge_keys hc).1, fun p hp t hc => ?_⟩
    change p ∈ AO.keys (cond (Nat.beq t κ) .no ((s.η t).purge κ)) at hc
    rw [beq_ite] at hc
    split at hc
    · cases hc
    · refine h.η p hp t ?_
      cases e : s.η t with
      | var own ty x => rw [e] at hc; exact (purge_keys (x := x) hc).1
      | no => rw [e] at hc; cases hc
      | row ty sz L => rw [e] at hc; cases hc
      | mp ty sk L => rw [e] at hc; cases hc
  · exact h
theorem Inv.app {P : List Nat} {s : S} {d : Option Nat} {u : U} (h : Inv P s) : Inv P (s.app d (u.nrm P d)) := by
  have hb := h.base (u.nrm P d)
  refine ⟨fun p hp => ?_, fun p hp t ht hc => ?_, fun p hp κ hc => ?_⟩
  · rw [app_ρ, U.nrm_x]
    split
    · rename_i e
      rw [e]
      exact nrm_isOwn P hp
    · exact hb.ptr p hp
  · rw [app_ρ, U.nrm_x] at hc
    split at hc
    · rename_i e
      have := (nrm_keys _ _ _ hc).2 hp
      rw [e] at this
      exact ht (Option.some.inj this)
    · exact hb.ρ p hp t ht hc
  · rw [app_η, U.nrm_obj', U.nrm_st] at hc
    split at hc
    · rename_i o' e
      split at e
      · cases eo : u.obj with
        | none => rw [eo] at e; cases e
        | some o =>
          rw [eo] at e
          simp only [Option.map_some, Option.some.injEq] at e
          rw [← e] at hc
          exact (nrmO_keys _ _ hc).2 hp
      · cases e
    · split at hc
      · rename_i q o' e
        cases es : u.st with
        | none => rw [es] at e; cases e
        | some z =>
          rw [es] at e
          simp only [Option.map_some, Option.some.injEq] at e
          split at hc
          · have e2 : z.2.nrm P = o' := congrArg Prod.snd e
            rw [← e2] at hc
            exact (nrmO_keys _ _ hc).2 hp
          · exact hb.η p hp κ hc
      · exact hb.η p hp κ hc
theorem skU_keys (P : List Nat) (d : Option Nat) : (skU P d).x.keys = [] := by
  unfold skU
  cases d with
  | none => rfl
  | some p =>
    show SV.keys (cond (P.contains p) .no (.tupS [])) = []
    cases P.contains p <;> rfl
theorem skU_R (P : List Nat) (d : Option Nat) : R ok β w (skU P d).x undef := by
  have h0 : R ok β w (.tupS []) undef := by rw [R]; exact ⟨[], rfl, trivial⟩
  unfold skU
  cases d with
  | none => exact h0
  | some p =>
    show R ok β w (cond (P.contains p) .no (.tupS [])) undef
    cases P.contains p
    · exact h0
    · trivial
theorem Inv.appNo {P : List Nat} {s : S} {d : Option Nat} (h : Inv P s) : Inv P (s.app d (skU P d)) := by
  refine ⟨fun p hp => ?_, fun p hp t ht hc => ?_, fun p hp κ hc => ?_⟩
  · rw [app_ρ]
    split
    · rename_i e
      left
      rw [e]
      show cond (P.contains p) SV.no (.tupS []) = .no
      rw [List.contains_iff_mem.2 hp]
      rfl
    · exact h.ptr p hp
  · rw [app_ρ] at hc
    split at hc
    · rw [skU_keys] at hc; cases hc
    · exact h.ρ p hp t ht hc
  · rw [app_η] at hc
    have : (if d = some κ then (none : Option AO) else none) = none := by split <;> rfl
    simp only [skU, this] at hc
    exact h.η p hp κ hc
theorem yielded_no (h : StO C n F ok0 w0 ok β s a w) {ops : Array Oper} {j g : Nat} {cs : List SV} (hg : (ops[j]?).bind (·.dst) = some g) (e : s.ρ g = .tupS cs) : yielded ops a.tmps j = none := by
  have h1 := h.ρ g
  rw [e, R] at h1
  obtain ⟨vs, h1, h2⟩ := h1
  unfold yielded
  rw [hg]
  simp only [Option.bind_some]
  rw [Array.getD_eq_getD_getElem?] at h1
  cases e2 : a.tmps[g]? with
  | none => rfl
  | some v =>
    rw [e2] at h1
    simp only [Option.getD_some] at h1
    rw [h1]
theorem Inv.putp {P : List Nat} {s : S} (h : Inv P s) {g : Nat} {x : PV} (e : s.ρ g = .p x) : Inv P (s.put g (.p x)) := by
  have : s.put g (.p x) = s := by
    cases s with
    | mk ρ η =>
      simp only [S.put, S.mk.injEq, and_true]
      funext t
      rw [beq_ite]
      split
      · rename_i ht; subst ht; exact e.symm
      · rfl
  rw [this]
  exact h
theorem step_sound (hC : CxOk C) {P : List Nat} (h : StO C n F ok0 w0 ok β s a w) (hd : ∀ d, o.dst = some d → d < n) (hI : Inv P s) {K' : S → Prop}
    (hvc : cond (isMut own o) (MVC C o s fun s => K' (s.nrm P)) (VC C own o s.ev s.η fun u => K' (s.app o.dst (u.nrm P o.dst)))) (hK : ∀ s' a' w', K' s' → Inv P s' → St C n F ok0 w0 s' a' w' → K a' w') : o.wp C.P a w K Q := by
  cases e : isMut own o with
  | true =>
    rw [e] at hvc
    exact op_mut hC h hd hvc fun s' a' w' hk hst => hK _ a' w' hk (Inv.nrm P s') (St_nrm hst)
  | false =>
    rw [e] at hvc
    exact op_sound hC h hd hvc fun u a' w' hu hst => hK _ a' w' hu hI.app (St_nrmU hst)
/-- A region's operations, one behind the other. -/
theorem ops_sound (hC : CxOk C) {P : List Nat} {ops : Array Oper} : ∀ (l : List Oper) (Kp : S → Prop) (s : S), (∀ o ∈ l, ∀ d, o.dst = some d → d < n) → vcOps C own P ops l Kp s → ∀ (a : Act) (w : World), Inv P s → St C n F ok0 w0 s a w →
    (∀ s a w, Kp s → Inv P s → St C n F ok0 w0 s a w → Q .normal a w) → wpList C.P ops Q l a w
  | [], Kp, s, _, hvc, a, w, hI, h, hQ => hQ s a w hvc hI h
  | o :: rest, Kp, s, hds, hvc, a, w, hI, h, hQ => by
    obtain ⟨ok, β, h⟩ := h
    have hd := hds o (List.mem_cons_self ..)
    have hds' : ∀ o ∈ rest, ∀ d, o.dst = some d → d < n := fun o ho => hds o (List.mem_cons_of_mem _ ho)
    simp only [vcOps, U.force_eq, S.force_eq] at hvc
    unfold wpList
    split at hvc
    · rename_i eg
      rw [if_pos (by simp [Region.wanted, eg])]
      exact .inl (step_sound hC h hd hI hvc fun s' a' w' hu hI' hst => ops_sound hC rest Kp _ hds' hu a' w' hI' hst hQ)
    · rename_i j want eg
      split at hvc
      · exact hvc.elim
      · rename_i g hg
        split at hvc
        · rename_i b eb
          have hy := yielded_of h hg eb
          have key : ∀ b : Bool, s.ρ g = .p (.bool b) → yielded ops a.tmps j = some b →
              (cond (b == want) (cond (isMut own o) (MVC C o (s.put g (.p (.bool b))) fun s => vcOps C own P ops rest Kp (s.nrm P)) (VC C own o (s.put g (.p (.bool b))).ev s.η fun u => vcOps C own P ops rest Kp ((s.put g (.p (.bool b))).app o.dst (u.nrm P o.dst)))) (vcOps C own P ops rest Kp ((s.put g (.p (.bool b))).app o.dst (skU P o.dst)))) →
              (if Region.wanted o (yielded ops a.tmps) = true then o.wp C.P a w (wpList C.P ops Q rest) Q ∨ o.asks C.P a w ∧ LetsOut Q else wpList C.P ops Q rest (a.put o.dst undef) w) := by
            intro b eb hy hv
            have h2 := h.refine eb
            cases e2 : (b == want) with
            | true =>
              rw [e2] at hv
              simp only [cond_true] at hv
              have e3 : b = want := by simpa using e2
              rw [if_pos (by simp [Region.wanted, eg, hy, e3])]
              exact .inl (step_sound hC h2 hd (hI.putp eb) hv fun s' a' w' hu hI' hst => ops_sound hC rest Kp _ hds' hu a' w' hI' hst hQ)
            | false =>
              rw [e2] at hv
              simp only [cond_false] at hv
              have e3 : ¬ b = want := by simpa using e2
              rw [if_neg (by simp [Region.wanted, eg, hy, e3])]
              exact ops_sound hC rest Kp _ hds' hv _ _ (hI.putp eb).appNo (St_put (x := (skU P o.dst).x) (v := undef) h2 hd (skU_R P o.dst) (by intro κ hκ; rw [skU_keys] at hκ; cases hκ)) hQ
          cases b with
          | true => exact key true eb hy (by cases want <;> exact hvc)
          | false => exact key false eb hy (by cases want <;> exact hvc)
        · rename_i eb
          have hy := yielded_no h hg eb
          rw [if_neg (by simp [Region.wanted, eg, hy])]
          exact ops_sound hC rest Kp _ hds' hvc _ _ hI.appNo (St_put (x := (skU P o.dst).x) (v := undef) h hd (skU_R P o.dst) (by intro κ hκ; rw [skU_keys] at hκ; cases hκ)) hQ
        · exact hvc.elim

end
end Go.Vc
