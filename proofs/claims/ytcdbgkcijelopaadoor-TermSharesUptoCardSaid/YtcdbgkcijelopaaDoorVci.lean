/- A calculus of verification conditions, part 16: a region that is drawn. -/
import Derived.Test.YtcdbgkcijelopaaDoorVch
set_option linter.unusedVariables false
namespace Go.Vc
open Go Go.RowKit

section
variable {C : Cx} {own : Nat → Bool} {ops : Array Oper}

theorem S.put_same {s : S} {g : Nat} {x : PV} (e : s.ρ g = .p x) : s.put g (.p x) = s := by
  cases s with
  | mk ρ η =>
    simp only [S.put, S.mk.injEq, and_true]
    funext t
    rw [beq_ite]
    split
    · rename_i ht; subst ht; exact e.symm
    · rfl
theorem looks_op {o : Oper} {t : Nat} (h : Operand.tmp t ∈ o.op.operands) : t ∈ o.looksAt ops :=
  List.mem_append_left _ (List.mem_filterMap.2 ⟨.tmp t, by simpa using h, rfl⟩)
theorem looks_guard {o : Oper} {j : Nat} {want : Bool} {g : Nat} (hg : o.guard = some (j, want)) (h : (ops[j]?).bind (·.dst) = some g) : g ∈ o.looksAt ops := by
  simp [Oper.looksAt, hg, h]
theorem wf_keys {s : S} (h : WF s) {x : Operand} {κ : Nat} (hk : κ ∈ (s.ev x).keys) : (s.η κ).live = true := by
  cases x with
  | tmp t => exact h.ρ t κ hk
  | const v =>
    exfalso
    have : (cv v).keys = [] := by
      unfold cv
      split
      · rename_i cs
        cases cs.toList.all Value.oneCell' <;> rfl
      · rfl
      · rfl
    rw [show s.ev (.const v) = cv v from rfl, this] at hk
    cases hk
  | global g => simp [S.ev, SV.keys] at hk
  | func f => simp [S.ev, SV.keys, SV.keysL] at hk
theorem wf_reach {s : S} (h : WF s) {l : List Nat} (hl : ∀ κ ∈ l, (s.η κ).live = true) {κ : Nat} (hr : Reach s.η l κ) : (s.η κ).live = true := by
  induction hr with
  | base hk => exact hl _ hk
  | step _ hk ih => exact h.η _ _ hk
theorem nrm_obj_some {P : List Nat} {d : Option Nat} {u : U} {Q : Prop} (h : ∀ o', u.obj = some o' → Q) : ∀ o', (u.nrm P d).obj = some o' → Q := by
  intro o' e
  rw [U.nrm_obj'] at e
  cases eo : u.obj with
  | none => rw [eo] at e; cases e
  | some o => exact h o eo
/-- What a free operation does: what it asks of another state that is like this one where it looks. -/
def opKeys (s : S) (o : Oper) : List Nat := o.op.operands.toList.flatMap fun x => (s.ev x).keys
theorem freeO_spec {o : Oper} (hf : freeO own o = true) : isMut own o = false ∧ freeO0 o = true := by
  unfold freeO at hf
  rw [Bool.and_eq_true, Bool.not_eq_true'] at hf
  exact hf
theorem step1_free {P : List Nat} {o : Oper} (hf' : freeO own o = true) {s : S} {K : S → Prop} (h : vcOps C own P ops [o] K s) :
    ∃ u, K (s.app o.dst u) ∧ u.st = none ∧ u.kill = none ∧ (∀ o', u.obj = some o' → ∃ d, o.dst = some d ∧ s.η d = .no) ∧ (Inv P s → Inv P (s.app o.dst u)) ∧
      ∀ s' : S, (∀ t ∈ o.looksAt ops, s'.ρ t = s.ρ t) → (∀ κ, Reach s.η (opKeys s o) κ → s'.η κ = s.η κ) → (∀ d, o.dst = some d → s'.η d = s.η d) → ∀ K' : S → Prop, K' (s'.app o.dst u) → vcOps C own P ops [o] K' s' := by
  obtain ⟨hnm, hf⟩ := freeO_spec hf'
  have hfree : ∀ {k : U → Prop}, VC C own o s.ev s.η k → Fr own C o s.ev s.η (opKeys s o) k := fun hvc => VC_free hf (fun x hx κ hk => by
    rw [opKeys, List.mem_flatMap]; exact ⟨x, by simpa using hx, hk⟩) hvc
  have hev : ∀ {s' : S}, (∀ t ∈ o.looksAt ops, s'.ρ t = s.ρ t) → ∀ x ∈ o.op.operands, s'.ev x = s.ev x := by
    intro s' hs x hx
    cases x with
    | tmp t => exact hs t (looks_op hx)
    | _ => rfl
  simp only [vcOps, U.force_eq, S.force_eq, hnm, cond_false] at h
  split at h
  · rename_i eg
    obtain ⟨u, hk, h1, h2, h3, h4⟩ := hfree h
    refine ⟨u.nrm P o.dst, hk, by rw [U.nrm_st, h1]; rfl, by rw [U.nrm_kill, h2], nrm_obj_some h3, fun hI => hI.app, fun s' hs hη hd K' hK' => ?_⟩
    simp only [vcOps, U.force_eq, S.force_eq, hnm, cond_false, eg]
    exact h4 s'.ev s'.η (fun u => K' (s'.app o.dst (u.nrm P o.dst))) (hev hs) hη hd hK'
  · rename_i j want eg
    split at h
    · exact h.elim
    · rename_i g hg
      split at h
      · rename_i b eb
        have key : (cond (b == want) (VC C own o s.ev s.η fun u => K (s.app o.dst (u.nrm P o.dst))) (K (s.app o.dst (skU P o.dst)))) := by
          cases b with
          | true => rw [S.put_same eb] at h; cases want <;> exact h
          | false => rw [S.put_same eb] at h; cases want <;> exact h
        have hback : ∀ (s' : S) (K' : S → Prop), s'.ρ g = .p (.bool b) → (cond (b == want) (VC C own o s'.ev s'.η fun u => K' (s'.app o.dst (u.nrm P o.dst))) (K' (s'.app o.dst (skU P o.dst)))) → vcOps C own P ops [o] K' s' := by
          intro s' K' eb' hh
          simp only [vcOps, U.force_eq, S.force_eq, hnm, cond_false, eg, hg, eb']
          cases b with
          | true => simp only [S.put_same eb']; cases want <;> exact hh
          | false => simp only [S.put_same eb']; cases want <;> exact hh
        cases e2 : (b == want) with
        | true =>
          rw [e2] at key
          simp only [cond_true] at key
          obtain ⟨u, hk, h1, h2, h3, h4⟩ := hfree key
          refine ⟨u.nrm P o.dst, hk, by rw [U.nrm_st, h1]; rfl, by rw [U.nrm_kill, h2], nrm_obj_some h3, fun hI => hI.app, fun s' hs hη hd K' hK' => hback s' K' (by rw [hs g (looks_guard eg hg)]; exact eb) ?_⟩
          rw [e2]
          exact h4 s'.ev s'.η (fun u => K' (s'.app o.dst (u.nrm P o.dst))) (hev hs) hη hd hK'
        | false =>
          rw [e2] at key
          refine ⟨_, key, rfl, rfl, by simp [skU], fun hI => hI.appNo, fun s' hs hη hd K' hK' => hback s' K' (by rw [hs g (looks_guard eg hg)]; exact eb) ?_⟩
          rw [e2]
          exact hK'
      · rename_i eb
        refine ⟨_, h, rfl, rfl, by simp [skU], fun hI => hI.appNo, fun s' hs hη hd K' hK' => ?_⟩
        have eb' := (hs g (looks_guard eg hg)).trans eb
        simp only [vcOps, S.force_eq, eg, hg, eb']
        exact hK'
      · exact h.elim
theorem app_ρ_ne {s : S} {dst : Option Nat} {u : U} (h1 : u.st = none) (h2 : u.kill = none) {t : Nat} (ht : dst ≠ some t) : (s.app dst u).ρ t = s.ρ t := by
  unfold S.app
  rw [h1, h2]
  cases dst with
  | none => rfl
  | some d =>
    have hne : t ≠ d := fun e => ht (by rw [e])
    simp only
    split
    · rw [S.put_ρ, if_neg hne]; rfl
    · rw [S.put_ρ, if_neg hne]
theorem app_η_ne {s : S} {dst : Option Nat} {u : U} (h1 : u.st = none) (h2 : u.kill = none) {t : Nat} (ht : dst ≠ some t ∨ u.obj = none) : (s.app dst u).η t = s.η t := by
  unfold S.app
  rw [h1, h2]
  cases dst with
  | none => rfl
  | some d =>
    simp only
    split
    · rename_i o' e
      rcases ht with ht | ht
      · have hne : t ≠ d := fun e => ht (by rw [e])
        show (S.set s d o').η t = _
        rw [S.set_η, if_neg hne]
      · rw [ht] at e; cases e
    · rfl
theorem app_comm {s : S} {x y : Option Nat} {u v : U} (hu : u.st = none) (hu' : u.kill = none) (hv : v.st = none) (hv' : v.kill = none) (h : ∀ d, x = some d → y ≠ some d) : (s.app x u).app y v = (s.app y v).app x u := by
  unfold S.app
  rw [hu, hu', hv, hv']
  cases x with
  | none => rfl
  | some d =>
    cases y with
    | none => rfl
    | some e =>
      have hne : d ≠ e := fun he => h d rfl (he ▸ rfl)
      have hb : ∀ t, Nat.beq t d = true → Nat.beq t e = true → False := fun t h1 h2 => hne ((Nat.beq_eq.mp h1).symm.trans (Nat.beq_eq.mp h2))
      cases hou : u.obj <;> cases hov : v.obj <;> simp only [S.put, S.set, S.mk.injEq] <;> constructor <;> first | trivial | rfl | (funext t; cases h1 : Nat.beq t d <;> cases h2 : Nat.beq t e <;> first | rfl | exact (hb t h1 h2).elim)
/-- THE SWAP. -/
theorem vc_swap {P : List Nat} {o x : Oper} (hfo : freeO own o = true) (hfx : freeO own x = true) (h1 : o.apart ops x = true) (h2 : x.apart ops o = true) {s : S} (hw : WF s) {K : S → Prop}
    (h : vcOps C own P ops [o] (vcOps C own P ops [x] K) s) : vcOps C own P ops [x] (vcOps C own P ops [o] K) s := by
  obtain ⟨a1, a2, a3⟩ := Oper.apart_spec h1
  obtain ⟨b1, b2, b3⟩ := Oper.apart_spec h2
  obtain ⟨u, hK, u1, u2, u3, _, u4⟩ := step1_free hfo h
  obtain ⟨v, hK2, v1, v2, v3, _, v4⟩ := step1_free hfx hK
  -- x first
  have hxη : ∀ d, x.dst = some d → s.η d = (s.app o.dst u).η d := fun d hd => (app_η_ne u1 u2 (.inl fun e => a2 d e hd)).symm
  have hreach : ∀ κ, Reach (s.app o.dst u).η (opKeys (s.app o.dst u) x) κ → (s.η κ).live = true ∧ (s.app o.dst u).η κ = s.η κ := by
    have hsame : ∀ κ, (s.η κ).live = true → (s.app o.dst u).η κ = s.η κ := by
      intro κ hκ
      refine app_η_ne u1 u2 ?_
      by_cases hd : o.dst = some κ
      · refine .inr (Classical.byContradiction fun ho => ?_)
        obtain ⟨o', ho'⟩ := Option.ne_none_iff_exists'.1 ho
        obtain ⟨d, q1, q2⟩ := u3 o' ho'
        rw [hd] at q1
        cases q1
        rw [q2] at hκ
        cases hκ
      · exact .inl hd
    intro κ hr
    have : (s.η κ).live = true := by
      induction hr with
      | base hk =>
        obtain ⟨y, hy, hk⟩ := List.mem_flatMap.1 hk
        have hy : y ∈ x.op.operands := by simpa using hy
        refine wf_keys hw (x := y) ?_
        cases y with
        | tmp t =>
          change _ ∈ ((s.app o.dst u).ρ t).keys at hk
          rw [app_ρ_ne u1 u2 fun e => a1 t e (looks_op hy)] at hk
          exact hk
        | _ => exact hk
      | step _ hk ih =>
        rw [hsame _ ih] at hk
        exact hw.η _ _ hk
    exact ⟨this, hsame κ this⟩
  refine v4 s (fun t ht => (app_ρ_ne u1 u2 fun e => a1 t e ht).symm) (fun κ hκ => (hreach κ hκ).2.symm) hxη _ ?_
  refine u4 _ (fun t ht => app_ρ_ne v1 v2 fun e => b1 t e ht) ?_ (fun d hd => app_η_ne v1 v2 (.inl fun e => b2 d e hd)) _ ?_
  · intro κ hr
    have hκ : (s.η κ).live = true := wf_reach hw (fun κ hk => by
      obtain ⟨y, _, hy⟩ := List.mem_flatMap.1 hk
      exact wf_keys hw hy) hr
    refine app_η_ne v1 v2 ?_
    by_cases hd : x.dst = some κ
    · refine .inr (Classical.byContradiction fun ho => ?_)
      obtain ⟨o', ho'⟩ := Option.ne_none_iff_exists'.1 ho
      obtain ⟨d, q1, q2⟩ := v3 o' ho'
      rw [hd] at q1
      cases q1
      rw [← hxη κ hd] at q2
      rw [q2] at hκ
      cases hκ
    · exact .inl hd
  · rw [← app_comm u1 u2 v1 v2 a2]
    exact hK2


/-! ### A store into an object that its own slot alone names -/
theorem stO_spec {P : List Nat} {o : Oper} {p : Nat} (h : stO P o = some p) : ∃ t x, o.op = .store t (.tmp p) x ∧ p ∈ P ∧ o.dst = none := by
  unfold stO at h
  split at h
  · rename_i t p' x e ed
    cases e2 : P.contains p' with
    | true =>
      rw [e2] at h
      simp only [cond_true, Option.some.injEq] at h
      subst h
      exact ⟨t, x, e, by simpa using e2, ed⟩
    | false => rw [e2] at h; cases h
  · cases h
theorem noTmp_spec {p : Nat} {x : Oper} (h : noTmp p x = true) {t : Nat} (ht : Operand.tmp t ∈ x.op.operands) : t ≠ p := by
  unfold noTmp at h
  rw [Array.all_eq_true_iff_forall_mem] at h
  have := h _ ht
  rintro rfl
  simp at this
theorem cv_keys (v : Value) : (cv v).keys = [] := by
  unfold cv
  split
  · rename_i cs
    cases cs.toList.all Value.oneCell' <;> rfl
  · rfl
  · rfl
theorem Inv.reach {P : List Nat} {s : S} (h : Inv P s) {p : Nat} (hp : p ∈ P) {x : Oper} (hx : noTmp p x = true) {κ : Nat} (hr : Reach s.η (opKeys s x) κ) : κ ≠ p := by
  cases hr with
  | base hk =>
    rintro rfl
    obtain ⟨y, hy, hk⟩ := List.mem_flatMap.1 hk
    have hy : y ∈ x.op.operands := by simpa using hy
    cases y with
    | tmp t => exact h.ρ _ hp t (noTmp_spec hx hy) hk
    | const v =>
      change _ ∈ (cv v).keys at hk
      rw [cv_keys] at hk
      cases hk
    | global g => cases hk
    | func f => cases hk
  | step _ hk => rintro rfl; exact h.η _ hp _ hk
theorem step1_store {P : List Nat} {o : Oper} {p : Nat} (ho : stO P o = some p) {s : S} (hI : Inv P s) {K : S → Prop} (h : vcOps C own P ops [o] K s) :
    o.dst = none ∧ ∃ u, K (s.app none u) ∧ u.kill = none ∧ u.obj = none ∧ (∀ z, u.st = some z → z.1 = p) ∧ Inv P (s.app none u) ∧
      ∀ s' : S, (∀ t ∈ o.looksAt ops, s'.ρ t = s.ρ t) → s'.η p = s.η p → ∀ K' : S → Prop, K' (s'.app none u) → vcOps C own P ops [o] K' s' := by
  obtain ⟨t, x, eo, hp, hdn⟩ := stO_spec ho
  have hnm : isMut own o = false := by simp [isMut, eo]
  have hpo : Operand.tmp p ∈ o.op.operands := by simp [eo, Op.operands]
  have hxo : x ∈ o.op.operands := by simp [eo, Op.operands]
  -- what the operation asks, at whatever state
  have core : ∀ {k : U → Prop}, VC C own o s.ev s.η k → o.dst = none ∧ ∃ u, k u ∧ u.kill = none ∧ u.obj = none ∧ (∀ z, u.st = some z → z.1 = p) ∧
      ∀ (s' : S) (k' : U → Prop), s'.ρ p = s.ρ p → s'.ev x = s.ev x → s'.η p = s.η p → k' u → VC C own o s'.ev s'.η k' := by
    intro k hvc
    simp only [VC, eo] at hvc
    split at hvc
    · rename_i ti ed et
      have hev : s.ev (.tmp p) = s.ρ p := rfl
      split at hvc
      · rename_i κ off eκ
        have hκ : κ = p := by
          rcases hI.ptr p hp with e | ⟨off', e⟩
          · rw [hev, e] at eκ; cases eκ
          · rw [hev, e] at eκ; cases eκ; rfl
        subst hκ
        split at hvc
        · rename_i t' y eη
          obtain ⟨h1, hvc⟩ := hvc
          cases ec : (Nat.beq t t' && Nat.beq off 0) with
          | true =>
            rw [ec] at hvc
            refine ⟨ed, _, hvc, rfl, rfl, fun z hz => by cases hz; rfl, fun s' k' g1 g2 g3 hk' => ?_⟩
            have g1' : s'.ev (.tmp κ) = .ptr κ off := by rw [← eκ]; exact g1
            simp only [VC, eo, ed, et, g1', g2, g3, eη, ec, cond_true]
            exact ⟨h1, hk'⟩
          | false =>
            rw [ec] at hvc
            simp only [cond_false] at hvc
            split at hvc
            · rename_i cs xs e1 e2
              obtain ⟨q1, q2, hvc⟩ := hvc
              refine ⟨ed, _, hvc, rfl, rfl, fun z hz => by cases hz; rfl, fun s' k' g1 g2 g3 hk' => ?_⟩
              have g1' : s'.ev (.tmp κ) = .ptr κ off := by rw [← eκ]; exact g1
              simp only [VC, eo, ed, et, g1', g2, g3, eη, ec, cond_false, e1, e2]
              exact ⟨h1, q1, q2, hk'⟩
            · exact hvc.elim
        · exact hvc.elim
      · rename_i κ sz i eκ
        exfalso
        rcases hI.ptr p hp with e | ⟨off', e⟩
        · rw [hev, e] at eκ; cases eκ
        · rw [hev, e] at eκ; cases eκ
      · exact hvc.elim
    · exact hvc.elim
  have hev' : ∀ {s' : S}, (∀ t ∈ o.looksAt ops, s'.ρ t = s.ρ t) → s'.ev x = s.ev x := by
    intro s' hs
    cases x with
    | tmp t => exact hs t (looks_op hxo)
    | _ => rfl
  have hst : ∀ {u : U}, (∀ z, u.st = some z → z.1 = p) → ∀ z, (u.nrm P none).st = some z → z.1 = p := by
    intro u hu z hz
    rw [U.nrm_st] at hz
    obtain ⟨y, hy, rfl⟩ := Option.map_eq_some_iff.1 hz
    exact hu y hy
  simp only [vcOps, U.force_eq, S.force_eq, hnm, cond_false] at h
  split at h
  · rename_i eg
    obtain ⟨hd, u, hk, h1, h2, h3, h4⟩ := core h
    rw [hd] at hk
    refine ⟨hd, u.nrm P none, hk, by rw [U.nrm_kill, h1], by rw [U.nrm_obj', h2]; rfl, hst h3, hI.app, fun s' hs hη K' hK' => ?_⟩
    simp only [vcOps, U.force_eq, S.force_eq, hnm, cond_false, eg]
    refine h4 s' _ (hs p (looks_op hpo)) (hev' hs) hη ?_
    rw [hd]
    exact hK'
  · rename_i j want eg
    split at h
    · exact h.elim
    · rename_i g hg
      split at h
      · rename_i b eb
        have key : (cond (b == want) (VC C own o s.ev s.η fun u => K (s.app o.dst (u.nrm P o.dst))) (K (s.app o.dst (skU P o.dst)))) := by
          cases b with
          | true => rw [S.put_same eb] at h; cases want <;> exact h
          | false => rw [S.put_same eb] at h; cases want <;> exact h
        have hback : ∀ (s' : S) (K' : S → Prop), s'.ρ g = .p (.bool b) → (cond (b == want) (VC C own o s'.ev s'.η fun u => K' (s'.app o.dst (u.nrm P o.dst))) (K' (s'.app o.dst (skU P o.dst)))) → vcOps C own P ops [o] K' s' := by
          intro s' K' eb' hh
          simp only [vcOps, U.force_eq, S.force_eq, hnm, cond_false, eg, hg, eb']
          cases b with
          | true => simp only [S.put_same eb']; cases want <;> exact hh
          | false => simp only [S.put_same eb']; cases want <;> exact hh
        cases e2 : (b == want) with
        | true =>
          rw [e2] at key
          simp only [cond_true] at key
          obtain ⟨hd, u, hk, h1, h2, h3, h4⟩ := core key
          rw [hd] at hk
          refine ⟨hd, u.nrm P none, hk, by rw [U.nrm_kill, h1], by rw [U.nrm_obj', h2]; rfl, hst h3, hI.app, fun s' hs hη K' hK' => hback s' K' (by rw [hs g (looks_guard eg hg)]; exact eb) ?_⟩
          rw [e2]
          refine h4 s' _ (hs p (looks_op hpo)) (hev' hs) hη ?_
          rw [hd]
          exact hK'
        | false =>
          rw [e2] at key
          simp only [cond_false] at key
          rw [hdn] at key
          refine ⟨hdn, skU P none, key, rfl, rfl, fun z hz => (by cases hz), hI.appNo, fun s' hs hη K' hK' => hback s' K' (by rw [hs g (looks_guard eg hg)]; exact eb) ?_⟩
          rw [e2]
          simp only [cond_false]
          rw [hdn]
          exact hK'
      · rename_i eb
        rw [hdn] at h
        refine ⟨hdn, skU P none, h, rfl, rfl, fun z hz => (by cases hz), hI.appNo, fun s' hs hη K' hK' => ?_⟩
        have eb' := (hs g (looks_guard eg hg)).trans eb
        simp only [vcOps, S.force_eq, eg, hg, eb']
        rw [hdn]
        exact hK'
      · exact h.elim

theorem app_st_ρ {s : S} {u : U} (h : u.kill = none) (t : Nat) : (s.app none u).ρ t = s.ρ t := by
  rw [app_ρ, if_neg (by simp)]
  unfold S.base
  rw [h]
theorem app_st_η {s : S} {u : U} {p : Nat} (h : u.kill = none) (h' : ∀ z, u.st = some z → z.1 = p) {κ : Nat} (hκ : κ ≠ p) : (s.app none u).η κ = s.η κ := by
  rw [app_η]
  simp only [reduceCtorEq, if_false]
  have hb : s.base u = s := by unfold S.base; rw [h]
  rw [hb]
  split
  · rename_i q o e
    have : q = p := h' _ e
    rw [if_neg (by omega)]
  · rfl
theorem app_comm_st {s : S} {y : Option Nat} {u v : U} {p : Nat} (hu : u.kill = none) (hu2 : u.obj = none) (hu3 : ∀ z, u.st = some z → z.1 = p) (hv : v.st = none) (hv' : v.kill = none) (hy : y ≠ some p) :
    (s.app none u).app y v = (s.app y v).app none u := by
  obtain ⟨ux, uo, us, uk⟩ := u
  obtain ⟨vx, vo, vs, vk⟩ := v
  simp only at hu hu2 hu3 hv hv'
  subst hu hu2 hv hv'
  cases us with
  | none => rfl
  | some z =>
    obtain ⟨q, o⟩ := z
    have hq : q = p := hu3 _ rfl
    subst hq
    cases y with
    | none => rfl
    | some e =>
      have hne : e ≠ q := fun he => hy (by rw [he])
      have hb : ∀ t, Nat.beq t q = true → Nat.beq t e = true → False := fun t h1 h2 => hne ((Nat.beq_eq.mp h2).symm.trans (Nat.beq_eq.mp h1))
      obtain ⟨ρ, η⟩ := s
      cases vo with
      | none => rfl
      | some o' =>
        simp only [S.app, S.put, S.set, S.mk.injEq, true_and]
        funext t
        cases h1 : Nat.beq t q <;> cases h2 : Nat.beq t e <;> first | rfl | exact (hb t h1 h2).elim
/-- A store, then what looks elsewhere. -/
theorem vc_swap_sx {P : List Nat} {o x : Oper} {p : Nat} (ho : stO P o = some p) (hfx : freeO own x = true) (hn : noTmp p x = true) (h1 : o.apart ops x = true) (h2 : x.apart ops o = true) {s : S} (hI : Inv P s) {K : S → Prop}
    (h : vcOps C own P ops [o] (vcOps C own P ops [x] K) s) : vcOps C own P ops [x] (vcOps C own P ops [o] K) s := by
  obtain ⟨t, y, eo, hp, _⟩ := stO_spec ho
  have hpo : p ∈ o.looksAt ops := looks_op (by simp [eo, Op.operands])
  obtain ⟨b1, b2, b3⟩ := Oper.apart_spec h2
  have hxp : ∀ d, x.dst = some d → d ≠ p := fun d hd e => b1 d hd (e ▸ hpo)
  obtain ⟨hd, u, hK, u1, u2, u3, hI1, u4⟩ := step1_store ho hI h
  obtain ⟨v, hK2, v1, v2, v3, _, v4⟩ := step1_free hfx hK
  refine v4 s (fun t ht => (app_st_ρ u1 t).symm) (fun κ hκ => (app_st_η u1 u3 (hI1.reach hp hn hκ)).symm) (fun d hd => (app_st_η u1 u3 (hxp d hd)).symm) _ ?_
  refine u4 _ (fun t ht => app_ρ_ne v1 v2 fun e => b1 t e ht) (app_η_ne v1 v2 (.inl fun e => hxp p e rfl)) _ ?_
  rw [← app_comm_st u1 u2 u3 v1 v2 (fun e => hxp p e rfl)]
  exact hK2
theorem vc_swap_xs {P : List Nat} {o x : Oper} {p : Nat} (ho : stO P o = some p) (hfx : freeO own x = true) (hn : noTmp p x = true) (h1 : o.apart ops x = true) (h2 : x.apart ops o = true) {s : S} (hI : Inv P s) {K : S → Prop}
    (h : vcOps C own P ops [x] (vcOps C own P ops [o] K) s) : vcOps C own P ops [o] (vcOps C own P ops [x] K) s := by
  obtain ⟨t, y, eo, hp, _⟩ := stO_spec ho
  have hpo : p ∈ o.looksAt ops := looks_op (by simp [eo, Op.operands])
  obtain ⟨b1, b2, b3⟩ := Oper.apart_spec h2
  have hxp : ∀ d, x.dst = some d → d ≠ p := fun d hd e => b1 d hd (e ▸ hpo)
  obtain ⟨v, hK, v1, v2, v3, hI', v4⟩ := step1_free hfx h
  obtain ⟨hd, u, hK2, u1, u2, u3, _, u4⟩ := step1_store ho (hI' hI) hK
  refine u4 s (fun t ht => (app_ρ_ne v1 v2 fun e => b1 t e ht).symm) (app_η_ne v1 v2 (.inl fun e => hxp p e rfl)).symm _ ?_
  refine v4 _ (fun t ht => app_st_ρ u1 t) (fun κ hκ => app_st_η u1 u3 (hI.reach hp hn hκ)) (fun d hd => app_st_η u1 u3 (hxp d hd)) _ ?_
  rw [app_comm_st u1 u2 u3 v1 v2 (fun e => hxp p e rfl)]
  exact hK2
theorem vc_sw {P : List Nat} {o x : Oper} (hs : swapB own P ops o x = true) {s : S} (hw : WF s) (hI : Inv P s) {K : S → Prop}
    (h : vcOps C own P ops [o] (vcOps C own P ops [x] K) s) : vcOps C own P ops [x] (vcOps C own P ops [o] K) s := by
  unfold swapB at hs
  simp only [Bool.and_eq_true] at hs
  obtain ⟨h1, h2, hs⟩ := hs
  rw [Bool.or_eq_true] at hs
  rcases hs with hs | hs
  · rw [Bool.and_eq_true] at hs
    exact vc_swap hs.1 hs.2 h1 h2 hw h
  · split at hs
    · rename_i p e
      rw [Bool.and_eq_true] at hs
      exact vc_swap_sx e hs.1 hs.2 h1 h2 hI h
    · split at hs
      · rename_i p e
        rw [Bool.and_eq_true] at hs
        exact vc_swap_xs e hs.1 hs.2 h2 h1 hI h
      · cases hs
theorem swapB_symm {P : List Nat} {o x : Oper} (h : swapB own P ops o x = true) : swapB own P ops x o = true := by
  unfold swapB at h ⊢
  simp only [Bool.and_eq_true] at h ⊢
  obtain ⟨h1, h2, h3⟩ := h
  refine ⟨h2, h1, ?_⟩
  rw [Bool.or_eq_true] at h3 ⊢
  rcases h3 with h3 | h3
  · exact .inl (by rw [Bool.and_comm]; exact h3)
  · refine .inr ?_
    cases e1 : stO P o with
    | some p =>
      rw [e1] at h3
      simp only at h3
      have hfx : freeO own x = true := by rw [Bool.and_eq_true] at h3; exact h3.1
      have : stO P x = none := by
        unfold stO
        split
        · rename_i t q y e ed
          simp [freeO, freeO0, e] at hfx
        · rfl
      rw [this]
      exact h3
    | none =>
      rw [e1] at h3
      simp only at h3
      cases e2 : stO P x with
      | some p => rw [e2] at h3; exact h3
      | none => rw [e2] at h3; cases h3
theorem one_u {P : List Nat} {o x : Oper} (hs : swapB own P ops o x = true) {s : S} (hI : Inv P s) {K : S → Prop} (h : vcOps C own P ops [o] K s) :
    ∃ u, K (s.app o.dst u) ∧ Inv P (s.app o.dst u) ∧ ∀ K' : S → Prop, K' (s.app o.dst u) → vcOps C own P ops [o] K' s := by
  have hfree : freeO own o = true → ∃ u, K (s.app o.dst u) ∧ Inv P (s.app o.dst u) ∧ ∀ K' : S → Prop, K' (s.app o.dst u) → vcOps C own P ops [o] K' s := by
    intro hf
    obtain ⟨u, hK, _, _, _, hI', u4⟩ := step1_free hf h
    exact ⟨u, hK, hI' hI, u4 s (fun _ _ => rfl) (fun _ _ => rfl) (fun _ _ => rfl)⟩
  unfold swapB at hs
  simp only [Bool.and_eq_true] at hs
  obtain ⟨h1, h2, hs⟩ := hs
  rw [Bool.or_eq_true] at hs
  rcases hs with hs | hs
  · rw [Bool.and_eq_true] at hs
    exact hfree hs.1
  · split at hs
    · rename_i p e
      obtain ⟨hd, u, hK, _, _, _, hI', u4⟩ := step1_store e hI h
      rw [hd]
      exact ⟨u, hK, hI', u4 s (fun _ _ => rfl) rfl⟩
    · split at hs
      · rw [Bool.and_eq_true] at hs
        exact hfree hs.1
      · cases hs
/-! ### Which operations stand ahead of one -/
theorem mask_spec (acc : List Nat) (i : Nat) : ∀ (l : List Edge) (m : Nat), (l.foldl (fun m e => cond (Region.binds .any e) (m ||| 2 ^ e.on ||| acc.getD e.on 0) m) m).testBit i = true →
    m.testBit i = true ∨ ∃ e ∈ l, Region.binds .any e = true ∧ (e.on = i ∨ (acc.getD e.on 0).testBit i = true)
  | [], m, h => .inl h
  | e :: l, m, h => by
    simp only [List.foldl_cons] at h
    rcases mask_spec acc i l _ h with h1 | ⟨e', h1, h2⟩
    · cases hb : Region.binds .any e with
      | false => rw [hb] at h1; exact .inl h1
      | true =>
        rw [hb] at h1
        simp only [cond_true, Nat.testBit_or, Bool.or_eq_true] at h1
        rcases h1 with (h1 | h1) | h1
        · exact .inl h1
        · rw [Nat.testBit_two_pow] at h1
          exact .inr ⟨e, List.mem_cons_self .., hb, .inl (by simpa using h1)⟩
        · exact .inr ⟨e, List.mem_cons_self .., hb, .inr h1⟩
    · exact .inr ⟨e', List.mem_cons_of_mem _ h1, h2⟩
theorem masks_spec {D : Nat → Prop} {L : List Oper} (hD : ∀ i o, L[i]? = some o → D i → ∀ e ∈ o.after.toList, Region.binds .any e = true → D e.on) :
    ∀ (l : List Oper) (acc : List Nat), (∀ j, l[j]? = L[acc.length + j]?) →
      (∀ k i, (∀ o, L[k]? = some o → ∀ e ∈ o.after.toList, Region.binds .any e = true → D e.on) → (acc.getD k 0).testBit i = true → D i) →
      ∀ k i, (∀ o, L[k]? = some o → ∀ e ∈ o.after.toList, Region.binds .any e = true → D e.on) → ((masks l acc).getD k 0).testBit i = true → D i
  | [], acc, _, hacc => hacc
  | o :: l, acc, hl, hacc => by
    simp only [masks]
    refine masks_spec hD l _ (fun j => ?_) fun k i hk hb => ?_
    · have := hl (j + 1)
      rw [List.length_append, List.length_singleton, show acc.length + 1 + j = acc.length + (j + 1) by omega, ← this]
      rfl
    · rw [List.getD_eq_getElem?_getD] at hb
      rcases Nat.lt_trichotomy k acc.length with hlt | heq | hgt
      · rw [List.getElem?_append_left hlt, ← List.getD_eq_getElem?_getD] at hb
        exact hacc k i hk hb
      · subst heq
        have ho : L[acc.length]? = some o := by simpa using (hl 0).symm
        simp only [List.getElem?_append_right (Nat.le_refl _), Nat.sub_self, List.getElem?_cons_zero, Option.getD_some] at hb
        rcases mask_spec acc i _ 0 hb with h1 | ⟨e, h1, h2, h3⟩
        · simp at h1
        · have hde := hk o ho e h1 h2
          rcases h3 with rfl | h3
          · exact hde
          · exact hacc e.on i (fun o' ho' e' he' hb' => hD e.on o' ho' hde e' he' hb') h3
      · rw [List.getElem?_eq_none (by simp; omega)] at hb
        simp at hb

/-! ### The region -/
theorem vcOps_cons {P : List Nat} {o : Oper} {rest : List Oper} {K : S → Prop} {s : S} : vcOps C own P ops (o :: rest) K s = vcOps C own P ops [o] (vcOps C own P ops rest K) s := by
  simp only [vcOps, U.force_eq, S.force_eq]
section
variable {n : Nat} {F : Fm} {ok0 : Nat → Prop} {w0 : World}
theorem wp_pure {P : Program} {o : Oper} {a : Act} {w : World} {p : Prop} (h : o.wp P a w (fun _ _ => p) (fun _ _ _ => p)) : p := by
  unfold Oper.wp at h
  generalize (execOp a.eval o).run P w = r at h
  cases r with
  | ok m w' =>
    cases m <;> simp only [Oper.upon] at h
    case value => exact h
    case skip => exact h
    case defer => exact h
    case enter f args =>
      obtain ⟨e, w'', fr, hr, _⟩ := h []
      cases e with
      | returned v => exact hr
      | panicked c => exact hr
      | outgrown => obtain ⟨_, _, hr⟩ := hr; exact hr
    case row r args =>
      obtain ⟨v, w'', hr, _⟩ := h (Frame.ofRow P r args .normal) []
      exact hr
  | halt x w' => cases x <;> simp only [Oper.upon] at h; exact h
theorem wp_Q {P : Program} {o : Oper} {a : Act} {w : World} {K : Act → World → Prop} {Q Q' : Exit → Act → World → Prop} (h1 : ∀ c a w, Q' (.panic c) a w → Q (.panic c) a w) (h2 : LetsOut Q' → LetsOut Q) (h : o.wp P a w K Q') : o.wp P a w K Q := by
  unfold Oper.wp at h ⊢
  generalize (execOp a.eval o).run P w = r at h ⊢
  cases r with
  | ok m w' =>
    cases m <;> simp only [Oper.upon] at h ⊢
    case value => exact h
    case skip => exact h
    case defer => exact h
    case enter f args =>
      refine Calls.mono h fun e w'' he => ?_
      cases e with
      | returned v => exact he
      | panicked c => exact h1 _ _ _ he
      | outgrown => exact h2 he
    case row r args => exact h
  | halt x w' => cases x <;> simp only [Oper.upon] at h ⊢; exact h1 _ _ _ h
theorem op_exists (hC : CxOk C) {P : List Nat} {o : Oper} (hd : ∀ d, o.dst = some d → d < n) {K : S → Prop} {s : S} {a : Act} {w : World} (hvc : vcOps C own P ops [o] K s) (hI : Inv P s) (h : St C n F ok0 w0 s a w) : ∃ s1 a1 w1, K s1 ∧ St C n F ok0 w0 s1 a1 w1 := by
  have := ops_sound (Q := fun _ _ _ => ∃ s1 a1 w1, K s1 ∧ St C n F ok0 w0 s1 a1 w1) hC (ops := ops) [o] K s (by intro o' ho' d hd'; simp at ho'; subst ho'; exact hd d hd') hvc a w hI h fun s1 a1 w1 hk _ hs => ⟨s1, a1, w1, hk, hs⟩
  unfold wpList at this
  split at this
  · rcases this with h1 | ⟨_, _, _, h1⟩
    · exact wp_pure h1
    · exact h1
  · exact this
theorem vcOps_front (hC : CxOk C) {P : List Nat} {x : Oper} {post : List Oper} {K : S → Prop} : ∀ (pre : List Oper), (∀ o ∈ pre, swapB own P ops o x = true) → (∀ o ∈ pre, ∀ d, o.dst = some d → d < n) →
    ∀ (s : S) (a : Act) (w : World), Inv P s → St C n F ok0 w0 s a w → vcOps C own P ops (pre ++ x :: post) K s → vcOps C own P ops [x] (vcOps C own P ops (pre ++ post) K) s
  | [], _, _, s, a, w, _, _, h => by rw [List.nil_append, vcOps_cons] at h; exact h
  | o :: pre, hfree, hds, s, a, w, hI, hst, h => by
    rw [List.cons_append, vcOps_cons] at h
    have hs := hfree o (List.mem_cons_self ..)
    obtain ⟨u, hK, hI', hself⟩ := one_u hs hI h
    obtain ⟨s1, a1, w1, rfl, hst1⟩ := op_exists hC (hds o (List.mem_cons_self ..)) (hself (fun s1 => s1 = s.app o.dst u) rfl) hI hst
    have ih := vcOps_front hC pre (fun o ho => hfree o (List.mem_cons_of_mem _ ho)) (fun o ho => hds o (List.mem_cons_of_mem _ ho)) _ a1 w1 hI' hst1 hK
    have hwf : WF s := by obtain ⟨ok, β, h⟩ := hst; exact h.wf
    have := vc_sw hs hwf hI (hself _ ih)
    rw [List.cons_append]
    have e : vcOps C own P ops (o :: (pre ++ post)) K = vcOps C own P ops [o] (vcOps C own P ops (pre ++ post) K) := by funext s; exact vcOps_cons
    rw [e]
    exact this
def rem (ops : Array Oper) (listed : Array Bool) : List (Oper × Nat) := ops.toList.zipIdx.filter fun x => !listed.getD x.2 true
theorem mem_rem {listed : Array Bool} {o : Oper} {i : Nat} : (o, i) ∈ rem ops listed ↔ ops[i]? = some o ∧ listed.getD i true = false := by
  unfold rem
  rw [List.mem_filter, List.mk_mem_zipIdx_iff_getElem?]
  simp
theorem rem_split {listed : Array Bool} {x : Oper} {j : Nat} (hj : ops[j]? = some x) (hu : listed.getD j true = false) :
    ∃ pre post, rem ops listed = pre ++ (x, j) :: post ∧ rem ops (listed.setIfInBounds j true) = pre ++ post ∧ (∀ y ∈ pre, y.2 < j) := by
  have hlt : j < ops.toList.zipIdx.length := by simpa using (Array.getElem?_eq_some_iff.1 hj).1
  have hget : ops.toList.zipIdx[j] = (x, j) := by
    have h1 := (Array.getElem?_eq_some_iff.1 hj)
    obtain ⟨h1, h2⟩ := h1
    simp [← h2]
  have hs : ops.toList.zipIdx = ops.toList.zipIdx.take j ++ (x, j) :: ops.toList.zipIdx.drop (j + 1) := by
    rw [← hget, ← List.drop_eq_getElem_cons hlt, List.take_append_drop]
  have h1 : ∀ y ∈ ops.toList.zipIdx.take j, y.2 < j := by
    intro y hy
    obtain ⟨i, hi, rfl⟩ := List.mem_iff_getElem.1 hy
    simp at hi
    simp
    omega
  have h2 : ∀ y ∈ ops.toList.zipIdx.drop (j + 1), j < y.2 := by
    intro y hy
    obtain ⟨i, hi, rfl⟩ := List.mem_iff_getElem.1 hy
    simp
    omega
  refine ⟨(ops.toList.zipIdx.take j).filter fun x => !listed.getD x.2 true, (ops.toList.zipIdx.drop (j + 1)).filter fun x => !listed.getD x.2 true, ?_, ?_, fun y hy => h1 y (List.mem_filter.1 hy).1⟩
  · unfold rem
    conv => lhs; rw [hs]
    rw [List.filter_append, List.filter_cons_of_pos (by simpa using hu)]
  · unfold rem
    conv => lhs; rw [hs]
    have hjl : j < listed.size := by
      rcases Nat.lt_or_ge j listed.size with h | h
      · exact h
      · simp [Array.getElem?_eq_none h] at hu
    rw [List.filter_append, List.filter_cons_of_neg (by simp [hjl])]
    congr 1
    · refine List.filter_congr fun y hy => ?_
      rw [getD_set_ne true (by have := h1 y hy; omega)]
    · refine List.filter_congr fun y hy => ?_
      rw [getD_set_ne true (by have := h2 y hy; omega)]
theorem draw_go (hC : CxOk C) {P : List Nat} (hds : ∀ o ∈ ops.toList, ∀ d, o.dst = some d → d < n) (hi : indep own P ops = true) {Kp : S → Prop} {Q : Exit → Act → World → Prop} (hQ : ∀ s a w, Kp s → St C n F ok0 w0 s a w → Q .normal a w) :
    ∀ (fuel : Nat) (listed : Array Bool) (s : S) (a : Act) (w : World), listed.size = ops.size → (∀ i o, ops[i]? = some o → listed.getD i true = true → ∀ e ∈ o.after.toList, Region.binds .any e = true → listed.getD e.on true = true) →
      (rem ops listed).length ≤ fuel → Inv P s → St C n F ok0 w0 s a w → vcOps C own P ops ((rem ops listed).map (·.1)) Kp s → wpAny C.P .any ops Q fuel listed a w := by
  have hedge : ∀ i o, ops[i]? = some o → ∀ e ∈ o.after.toList, Region.binds .any e = true → e.on < i := by
    intro i o ho e he hb
    unfold indep at hi
    rw [List.all_eq_true] at hi
    have := hi (o, i) (by rw [List.mk_mem_zipIdx_iff_getElem?]; simpa using ho)
    simp only [Bool.and_eq_true, List.all_eq_true] at this
    have := this.1.1 e he
    simpa [hb, Nat.blt_eq] using this
  have hpair : ∀ i o j x, ops[i]? = some o → ops[j]? = some x → j < i → ((masks ops.toList []).getD i 0).testBit j = true ∨ swapB own P ops o x = true := by
    intro i o j x ho hx hji
    unfold indep at hi
    rw [List.all_eq_true] at hi
    have := hi (o, i) (by rw [List.mk_mem_zipIdx_iff_getElem?]; simpa using ho)
    simp only [Bool.and_eq_true, List.all_eq_true] at this
    have := this.2 (x, j) (by rw [List.mk_mem_zipIdx_iff_getElem?]; simpa using hx)
    simp only [Bool.or_eq_true, Bool.not_eq_true'] at this
    rcases this with (h | h) | h
    · exfalso
      have : Nat.blt j i = true := by rw [Nat.blt_eq]; exact hji
      rw [this] at h
      cases h
    · exact .inl h
    · exact .inr h
  have hready0 : ∀ (listed : Array Bool), listed.size = ops.size → rem ops listed ≠ [] → Region.ready .any ops listed ≠ [] := by
    intro listed hsz hne
    -- the least one that is not listed
    have key : ∀ m i, i ≤ m → ∀ o, ops[i]? = some o → listed.getD i true = false → Region.ready .any ops listed ≠ [] := by
      intro m
      induction m with
      | zero =>
        intro i him o ho hu
        have : i ∈ Region.ready .any ops listed := by
          rw [mem_ready]
          refine ⟨hu, o, ho, fun e he hb => ?_⟩
          have := hedge i o ho e (by simpa using he) hb
          omega
        intro h0
        rw [h0] at this
        cases this
      | succ m ih =>
        intro i him o ho hu
        by_cases hex : ∃ e ∈ o.after.toList, Region.binds .any e = true ∧ listed.getD e.on true = false
        · obtain ⟨e, he, hb, hu'⟩ := hex
          have hlt := hedge i o ho e he hb
          have hsz' : e.on < ops.size := by have := (Array.getElem?_eq_some_iff.1 ho).1; omega
          exact ih e.on (by omega) ops[e.on] (by simp [hsz']) hu'
        · have : i ∈ Region.ready .any ops listed := by
            rw [mem_ready]
            refine ⟨hu, o, ho, fun e he hb => ?_⟩
            have h1 : listed.getD e.on true = true := by
              cases h : listed.getD e.on true with
              | true => rfl
              | false => exact absurd ⟨e, by simpa using he, hb, h⟩ hex
            have hlt := hedge i o ho e (by simpa using he) hb
            have hsz' : e.on < listed.size := by have := (Array.getElem?_eq_some_iff.1 ho).1; omega
            simpa [hsz'] using h1
          intro h0
          rw [h0] at this
          cases this
    obtain ⟨⟨o, i⟩, ho⟩ := List.exists_mem_of_ne_nil _ hne
    obtain ⟨h1, h2⟩ := mem_rem.1 ho
    exact key i i (Nat.le_refl _) o h1 h2
  intro fuel
  induction fuel with
  | zero =>
    intro listed s a w hsz hdc hlen hI hst hvc
    have h0 : rem ops listed = [] := List.length_eq_zero_iff.1 (Nat.le_zero.1 hlen)
    rw [h0] at hvc
    refine ⟨?_, hQ s a w hvc hst⟩
    refine List.eq_nil_iff_forall_not_mem.2 fun i hi => ?_
    obtain ⟨h1, o, h2, _⟩ := mem_ready.1 hi
    have := mem_rem.2 ⟨h2, h1⟩
    rw [h0] at this
    cases this
  | succ fuel ih =>
    intro listed s a w hsz hdc hlen hI hst hvc
    refine ⟨fun h0 => ?_, fun j hj => ?_⟩
    · have h1 : rem ops listed = [] := Classical.byContradiction fun hne => hready0 listed hsz hne h0
      rw [h1] at hvc
      exact hQ s a w hvc hst
    · obtain ⟨hu, x, hx, hall⟩ := mem_ready.1 hj
      obtain ⟨pre, post, e1, e2, hpre⟩ := rem_split hx hu
      have hpremem : ∀ y ∈ pre, ops[y.2]? = some y.1 ∧ listed.getD y.2 true = false := fun y hy => mem_rem.1 (by rw [e1]; exact List.mem_append_left _ hy)
      rw [e1, List.map_append, List.map_cons] at hvc
      have hD : ∀ e ∈ x.after.toList, Region.binds .any e = true → listed.getD e.on true = true := by
        intro e he hb
        have h1 := hall e (by simpa using he) hb
        rcases Nat.lt_or_ge e.on listed.size with h | h
        · simpa [h] using h1
        · simp [Array.getElem?_eq_none h] at h1
      have hfr : ∀ o ∈ pre.map (·.1), swapB own P ops o x = true := by
        intro o ho
        obtain ⟨⟨o, i⟩, hm, rfl⟩ := List.mem_map.1 ho
        obtain ⟨h1, h2⟩ := hpremem _ hm
        rcases hpair j x i o hx h1 (hpre _ hm) with h3 | h3
        · exfalso
          have := masks_spec (D := fun i => listed.getD i true = true) (L := ops.toList) (fun i o ho hDi e he hb => hdc i o (by simpa using ho) hDi e he hb) ops.toList [] (fun j => by simp) (fun k i _ h => by simp at h) j i (fun o ho e he hb => by
            have : o = x := by simpa [hx] using ho.symm
            subst this
            exact hD e he hb) h3
          rw [h2] at this
          cases this
        · exact swapB_symm h3
      have hd : ∀ o ∈ pre.map (·.1), ∀ d, o.dst = some d → d < n := by
        intro o ho
        obtain ⟨⟨o, i⟩, hm, rfl⟩ := List.mem_map.1 ho
        exact hds o (by have := (hpremem _ hm).1; exact List.mem_of_getElem? (by simpa using this))
      have hfront := vcOps_front hC _ hfr hd s a w hI hst hvc
      have hxm : x ∈ ops.toList := List.mem_of_getElem? (i := j) (by simpa using hx)
      have hsound := ops_sound (Q := fun e a w => match e with | .normal => wpAny C.P .any ops Q fuel (listed.setIfInBounds j true) a w | e => Q e a w) hC (ops := ops) [x] _ s (by intro o' ho' d hd'; simp at ho'; subst ho'; exact hds _ hxm d hd') hfront a w hI hst fun s1 a1 w1 hk hI1 hs => by
        refine ih _ s1 a1 w1 (by simpa using hsz) ?_ ?_ hI1 hs ?_
        · intro i o ho hl e he hb
          by_cases hij : j = i
          · subst hij
            have : o = x := by rw [hx] at ho; cases ho; rfl
            subst this
            by_cases hje : j = e.on
            · have := hedge _ _ ho e he hb; omega
            · rw [getD_set_ne true hje]; exact hD e he hb
          · rw [getD_set_ne true hij] at hl
            by_cases hje : j = e.on
            · rw [← hje]
              have : j < listed.size := by rw [hsz]; exact (Array.getElem?_eq_some_iff.1 hx).1
              simp [this]
            · rw [getD_set_ne true hje]; exact hdc i o ho hl e he hb
        · rw [e2]
          rw [e1] at hlen
          simp at hlen ⊢
          omega
        · rw [e2, List.map_append]; exact hk
      unfold wpOp
      rw [hx]
      simp only
      unfold wpList at hsound
      split
      · rename_i hw
        rw [if_pos hw] at hsound
        rcases hsound with h1 | ⟨h1, h2⟩
        · exact .inl (wp_Q (fun _ _ _ h => h) (fun h => h) h1)
        · exact .inr ⟨h1, h2⟩
      · rename_i hw
        rw [if_neg hw] at hsound
        exact hsound
end
end
end Go.Vc
