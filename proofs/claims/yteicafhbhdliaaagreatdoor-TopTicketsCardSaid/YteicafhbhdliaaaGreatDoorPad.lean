/- The statement TopTickets, without a condition: a ticket of one KDC is none of another one's. Part 4: Wd. -/
import Derived.Test.YteicafhbhdliaaaGreatDoorPac
set_option linter.unusedVariables false
namespace Go.Vc
open Go Go.RowKit
section
variable {C : Cx} {own : Nat → Bool} {ops : Array Oper}
theorem S.put_same {s : S} {g : Nat} {x : PV} (e : s.ρ g = .p x) : s.put g (.p x) = s := by
 cases s with
 | mk ρ η =>
  simp only [S.put, S.mk.injEq, and_true]
  funext t
  rw [beq_ite]
  split
  ·rename_i ht; subst ht; exact e.symm
  ·rfl
theorem looks_op {o : Oper} {t : Nat} (h : Operand.tmp t ∈ o.op.operands) : t ∈ o.looksAt ops :=
 List.mem_append_left _ (List.mem_filterMap.2 ⟨.tmp t, by simpa using h, rfl⟩)
theorem looks_guard {o : Oper} {j : Nat} {want : Bool} {g : Nat} (hg : o.guard = some (j, want)) (h : (ops[j]?).bind (·.dst) = some g) : g ∈ o.looksAt ops := by
 simp [Oper.looksAt, hg, h]
theorem wf_keys {s : S} (h : WF s) {x : Operand} {κ : Nat} (hk : κ ∈ (s.ev x).keys) : (s.η κ).live = true := by
 cases x with
 | tmp t => exact h.ρ t κ hk
 | const v =>
  exfalso
  have : (cv v).keys = [] := by
   unfold cv
   split
   ·rename_i cs
    cases cs.toList.all Value.oneCell' <;> rfl
   ·rfl
   ·rfl
  rw [show s.ev (.const v) = cv v from rfl, this] at hk
  cases hk
 | global g => simp [S.ev, SV.keys] at hk
 | func f => simp [S.ev, SV.keys, SV.keysL] at hk
theorem wf_reach {s : S} (h : WF s) {l : List Nat} (hl : ∀ κ ∈ l, (s.η κ).live = true) {κ : Nat} (hr : Reach s.η l κ) : (s.η κ).live = true := by
 induction hr with
 | base hk => exact hl _ hk
 | step _ hk ih => exact h.η _ _ hk
theorem nrm_obj_some {P : List Nat} {d : Option Nat} {u : U} {Q : Prop} (h : ∀ o', u.obj = some o' → Q) : ∀ o', (u.nrm P d).obj = some o' → Q := by
 intro o' e
 rw [U.nrm_obj'] at e
 cases eo : u.obj with
 | none => rw [eo] at e; cases e
 | some o => exact h o eo
def opKeys (s : S) (o : Oper) : List Nat := o.op.operands.toList.flatMap fun x => (s.ev x).keys
theorem freeO_spec {o : Oper} (hf : freeO own o = true) : isMut own o = false ∧ freeO1 own o = true := by
 unfold freeO at hf
 rw [Bool.and_eq_true, Bool.not_eq_true'] at hf
 exact hf
theorem step1_free {P : List Nat} {o : Oper} (hf' : freeO own o = true) {s : S} {K : S → Prop} (h : vcOps C own P ops [o] K s) :
  ∃ u, K (s.app o.dst u) ∧ u.st = none ∧ u.kill = none ∧ (∀ o', u.obj = some o' → ∃ d, o.dst = some d ∧ s.η d = .no) ∧ (Inv P s → Inv P (s.app o.dst u)) ∧
   ∀ s' : S, (∀ t ∈ o.looksAt ops, s'.ρ t = s.ρ t) → (∀ κ, Reach s.η (opKeys s o) κ → s'.η κ = s.η κ) → (∀ d, o.dst = some d → s'.η d = s.η d) → ∀ K' : S → Prop, K' (s'.app o.dst u) → vcOps C own P ops [o] K' s' := by
 obtain ⟨hnm, hf⟩ := freeO_spec hf'
 have hfree : ∀ {k : U → Prop}, VC C own o s.ev s.η k → Fr own C o s.ev s.η (opKeys s o) k := fun hvc => VC_free (fun _ => rfl) hf (fun x hx κ hk => by
  rw [opKeys, List.mem_flatMap]; exact ⟨x, by simpa using hx, hk⟩) hvc
 have hev : ∀ {s' : S}, (∀ t ∈ o.looksAt ops, s'.ρ t = s.ρ t) → ∀ x ∈ o.op.operands, s'.ev x = s.ev x := by
  intro s' hs x hx
  cases x with
  | tmp t => exact hs t (looks_op hx)
  | _ => rfl
 simp only [vcOps, U.force_eq, S.force_eq, hnm, cond_false] at h
 split at h
 ·rename_i eg
  obtain ⟨u, hk, h1, h2, h3, h4⟩ := hfree h
  refine ⟨u.nrm P o.dst, hk, by rw [U.nrm_st, h1]; rfl, by rw [U.nrm_kill, h2], nrm_obj_some h3, fun hI => hI.app, fun s' hs hη hd K' hK' => ?_⟩
  simp only [vcOps, U.force_eq, S.force_eq, hnm, cond_false, eg]
  exact h4 s'.ev s'.η (fun u => K' (s'.app o.dst (u.nrm P o.dst))) (hev hs) hη hd hK'
 ·rename_i j want eg
  split at h
  ·exact h.elim
  ·rename_i g hg
   split at h
   ·rename_i b eb
    have key : (cond (b == want) (VC C own o s.ev s.η fun u => K (s.app o.dst (u.nrm P o.dst))) (K (s.app o.dst (skU P o.dst)))) := by
     cases b with
     | true => rw [S.put_same eb] at h; cases want <;> exact h
     | false => rw [S.put_same eb] at h; cases want <;> exact h
    have hback : ∀ (s' : S) (K' : S → Prop), s'.ρ g = .p (.bool b) → (cond (b == want) (VC C own o s'.ev s'.η fun u => K' (s'.app o.dst (u.nrm P o.dst))) (K' (s'.app o.dst (skU P o.dst)))) → vcOps C own P ops [o] K' s' := by
     intro s' K' eb' hh
     simp only [vcOps, U.force_eq, S.force_eq, hnm, cond_false, eg, hg, eb']
     cases b with
     | true => simp only [S.put_same eb']; cases want <;> exact hh
     | false => simp only [S.put_same eb']; cases want <;> exact hh
    cases e2 : (b == want) with
    | true =>
     rw [e2] at key
     simp only [cond_true] at key
     obtain ⟨u, hk, h1, h2, h3, h4⟩ := hfree key
     refine ⟨u.nrm P o.dst, hk, by rw [U.nrm_st, h1]; rfl, by rw [U.nrm_kill, h2], nrm_obj_some h3, fun hI => hI.app, fun s' hs hη hd K' hK' => hback s' K' (by rw [hs g (looks_guard eg hg)]; exact eb) ?_⟩
     rw [e2]
     exact h4 s'.ev s'.η (fun u => K' (s'.app o.dst (u.nrm P o.dst))) (hev hs) hη hd hK'
    | false =>
     rw [e2] at key
     refine ⟨_, key, rfl, rfl, by simp [skU], fun hI => hI.appNo, fun s' hs hη hd K' hK' => hback s' K' (by rw [hs g (looks_guard eg hg)]; exact eb) ?_⟩
     rw [e2]
     exact hK'
   ·rename_i eb
    refine ⟨_, h, rfl, rfl, by simp [skU], fun hI => hI.appNo, fun s' hs hη hd K' hK' => ?_⟩
    have eb' := (hs g (looks_guard eg hg)).trans eb
    simp only [vcOps, S.force_eq, eg, hg, eb']
    exact hK'
   ·exact h.elim
theorem app_ρ_ne {s : S} {dst : Option Nat} {u : U} (h1 : u.st = none) (h2 : u.kill = none) {t : Nat} (ht : dst ≠ some t) : (s.app dst u).ρ t = s.ρ t := by
 unfold S.app
 rw [h1, h2]
 cases dst with
 | none => rfl
 | some d =>
  have hne : t ≠ d := fun e => ht (by rw [e])
  simp only
  split
  ·rw [S.put_ρ, if_neg hne]; rfl
  ·rw [S.put_ρ, if_neg hne]
theorem app_η_ne {s : S} {dst : Option Nat} {u : U} (h1 : u.st = none) (h2 : u.kill = none) {t : Nat} (ht : dst ≠ some t ∨ u.obj = none) : (s.app dst u).η t = s.η t := by
 unfold S.app
 rw [h1, h2]
 cases dst with
 | none => rfl
 | some d =>
  simp only
  split
  ·rename_i o' e
   rcases ht with ht | ht
   ·have hne : t ≠ d := fun e => ht (by rw [e])
    show (S.set s d o').η t = _
    rw [S.set_η, if_neg hne]
   ·rw [ht] at e; cases e
  ·rfl
theorem app_comm {s : S} {x y : Option Nat} {u v : U} (hu : u.st = none) (hu' : u.kill = none) (hv : v.st = none) (hv' : v.kill = none) (h : ∀ d, x = some d → y ≠ some d) : (s.app x u).app y v = (s.app y v).app x u := by
 unfold S.app
 rw [hu, hu', hv, hv']
 cases x with
 | none => rfl
 | some d =>
  cases y with
  | none => rfl
  | some e =>
   have hne : d ≠ e := fun he => h d rfl (he ▸ rfl)
   have hb : ∀ t, Nat.beq t d = true → Nat.beq t e = true → False := fun t h1 h2 => hne ((Nat.beq_eq.mp h1).symm.trans (Nat.beq_eq.mp h2))
   cases hou : u.obj <;> cases hov : v.obj <;> simp only [S.put, S.set, S.mk.injEq] <;> constructor <;> first | trivial | rfl | (funext t; cases h1 : Nat.beq t d <;> cases h2 : Nat.beq t e <;> first | rfl | exact (hb t h1 h2).elim)
theorem vc_swap {P : List Nat} {o x : Oper} (hfo : freeO own o = true) (hfx : freeO own x = true) (h1 : o.apart ops x = true) (h2 : x.apart ops o = true) {s : S} (hw : WF s) {K : S → Prop}
  (h : vcOps C own P ops [o] (vcOps C own P ops [x] K) s) : vcOps C own P ops [x] (vcOps C own P ops [o] K) s := by
 obtain ⟨a1, a2, a3⟩ := Oper.apart_spec h1
 obtain ⟨b1, b2, b3⟩ := Oper.apart_spec h2
 obtain ⟨u, hK, u1, u2, u3, _, u4⟩ := step1_free hfo h
 obtain ⟨v, hK2, v1, v2, v3, _, v4⟩ := step1_free hfx hK
 have hxη : ∀ d, x.dst = some d → s.η d = (s.app o.dst u).η d := fun d hd => (app_η_ne u1 u2 (.inl fun e => a2 d e hd)).symm
 have hreach : ∀ κ, Reach (s.app o.dst u).η (opKeys (s.app o.dst u) x) κ → (s.η κ).live = true ∧ (s.app o.dst u).η κ = s.η κ := by
  have hsame : ∀ κ, (s.η κ).live = true → (s.app o.dst u).η κ = s.η κ := by
   intro κ hκ
   refine app_η_ne u1 u2 ?_
   by_cases hd : o.dst = some κ
   ·refine .inr (Classical.byContradiction fun ho => ?_)
    obtain ⟨o', ho'⟩ := Option.ne_none_iff_exists'.1 ho
    obtain ⟨d, q1, q2⟩ := u3 o' ho'
    rw [hd] at q1
    cases q1
    rw [q2] at hκ
    cases hκ
   ·exact .inl hd
  intro κ hr
  have : (s.η κ).live = true := by
   induction hr with
   | base hk =>
    obtain ⟨y, hy, hk⟩ := List.mem_flatMap.1 hk
    have hy : y ∈ x.op.operands := by simpa using hy
    refine wf_keys hw (x := y) ?_
    cases y with
    | tmp t =>
     change _ ∈ ((s.app o.dst u).ρ t).keys at hk
     rw [app_ρ_ne u1 u2 fun e => a1 t e (looks_op hy)] at hk
     exact hk
    | _ => exact hk
   | step _ hk ih =>
    rw [hsame _ ih] at hk
    exact hw.η _ _ hk
  exact ⟨this, hsame κ this⟩
 refine v4 s (fun t ht => (app_ρ_ne u1 u2 fun e => a1 t e ht).symm) (fun κ hκ => (hreach κ hκ).2.symm) hxη _ ?_
 refine u4 _ (fun t ht => app_ρ_ne v1 v2 fun e => b1 t e ht) ?_ (fun d hd => app_η_ne v1 v2 (.inl fun e => b2 d e hd)) _ ?_
 ·intro κ hr
  have hκ : (s.η κ).live = true := wf_reach hw (fun κ hk => by
   obtain ⟨y, _, hy⟩ := List.mem_flatMap.1 hk
   exact wf_keys hw hy) hr
  refine app_η_ne v1 v2 ?_
  by_cases hd : x.dst = some κ
  ·refine .inr (Classical.byContradiction fun ho => ?_)
   obtain ⟨o', ho'⟩ := Option.ne_none_iff_exists'.1 ho
   obtain ⟨d, q1, q2⟩ := v3 o' ho'
   rw [hd] at q1
   cases q1
   rw [← hxη κ hd] at q2
   rw [q2] at hκ
   cases hκ
  ·exact .inl hd
 ·rw [← app_comm u1 u2 v1 v2 a2]
  exact hK2
theorem stO_spec {P : List Nat} {o : Oper} {p : Nat} (h : stO P o = some p) : ∃ t x, o.op = .store t (.tmp p) x ∧ p ∈ P ∧ o.dst = none := by
 unfold stO at h
 split at h
 ·rename_i t p' x e ed
  cases e2 : P.contains p' with
  | true =>
   rw [e2] at h
   simp only [cond_true, Option.some.injEq] at h
   subst h
   exact ⟨t, x, e, by simpa using e2, ed⟩
  | false => rw [e2] at h; cases h
 ·cases h
theorem noTmp_spec {p : Nat} {x : Oper} (h : noTmp p x = true) {t : Nat} (ht : Operand.tmp t ∈ x.op.operands) : t ≠ p := by
 unfold noTmp at h
 rw [Array.all_eq_true_iff_forall_mem] at h
 have := h _ ht
 rintro rfl
 simp at this
theorem cv_keys (v : Value) : (cv v).keys = [] := by
 unfold cv
 split
 ·rename_i cs
  cases cs.toList.all Value.oneCell' <;> rfl
 ·rfl
 ·rfl
theorem Inv.reach {P : List Nat} {s : S} (h : Inv P s) {p : Nat} (hp : p ∈ P) {x : Oper} (hx : noTmp p x = true) {κ : Nat} (hr : Reach s.η (opKeys s x) κ) : κ ≠ p := by
 cases hr with
 | base hk =>
  rintro rfl
  obtain ⟨y, hy, hk⟩ := List.mem_flatMap.1 hk
  have hy : y ∈ x.op.operands := by simpa using hy
  cases y with
  | tmp t => exact h.ρ _ hp t (noTmp_spec hx hy) hk
  | const v =>
   change _ ∈ (cv v).keys at hk
   rw [cv_keys] at hk
   cases hk
  | global g => cases hk
  | func f => cases hk
 | step _ hk => rintro rfl; exact h.η _ hp _ hk
theorem step1_store {P : List Nat} {o : Oper} {p : Nat} (ho : stO P o = some p) {s : S} (hI : Inv P s) {K : S → Prop} (h : vcOps C own P ops [o] K s) :
  o.dst = none ∧ ∃ u, K (s.app none u) ∧ u.kill = none ∧ u.obj = none ∧ (∀ z, u.st = some z → z.1 = p) ∧ Inv P (s.app none u) ∧
   ∀ s' : S, (∀ t ∈ o.looksAt ops, s'.ρ t = s.ρ t) → s'.η p = s.η p → ∀ K' : S → Prop, K' (s'.app none u) → vcOps C own P ops [o] K' s' := by
 obtain ⟨t, x, eo, hp, hdn⟩ := stO_spec ho
 have hnm : isMut own o = false := by simp [isMut, eo]
 have hpo : Operand.tmp p ∈ o.op.operands := by simp [eo, Op.operands]
 have hxo : x ∈ o.op.operands := by simp [eo, Op.operands]
 have core : ∀ {k : U → Prop}, VC C own o s.ev s.η k → o.dst = none ∧ ∃ u, k u ∧ u.kill = none ∧ u.obj = none ∧ (∀ z, u.st = some z → z.1 = p) ∧
   ∀ (s' : S) (k' : U → Prop), s'.ρ p = s.ρ p → s'.ev x = s.ev x → s'.η p = s.η p → k' u → VC C own o s'.ev s'.η k' := by
  intro k hvc
  simp only [VC, eo] at hvc
  split at hvc
  ·rename_i ti ed et
   have hev : s.ev (.tmp p) = s.ρ p := rfl
   split at hvc
   ·rename_i κ off eκ
    have hκ : κ = p := by
     rcases hI.ptr p hp with e | ⟨off', e⟩ | e
     ·rw [hev, e] at eκ; cases eκ
     ·rw [hev, e] at eκ; cases eκ; rfl
     ·rw [hev, e] at eκ; cases eκ
    subst hκ
    split at hvc
    ·rename_i t' y eη
     obtain ⟨h1, hvc⟩ := hvc
     cases ec : (Nat.beq t t' && Nat.beq off 0) with
     | true =>
      rw [ec] at hvc
      refine ⟨ed, _, hvc, rfl, rfl, fun z hz => by cases hz; rfl, fun s' k' g1 g2 g3 hk' => ?_⟩
      have g1' : s'.ev (.tmp κ) = .ptr κ off := by rw [← eκ]; exact g1
      simp only [VC, eo, ed, et, g1', g2, g3, eη, ec, cond_true]
      exact ⟨h1, hk'⟩
     | false =>
      rw [ec] at hvc
      simp only [cond_false] at hvc
      split at hvc
      ·rename_i cs xs e1 e2
       obtain ⟨q1, q2, hvc⟩ := hvc
       refine ⟨ed, _, hvc, rfl, rfl, fun z hz => by cases hz; rfl, fun s' k' g1 g2 g3 hk' => ?_⟩
       have g1' : s'.ev (.tmp κ) = .ptr κ off := by rw [← eκ]; exact g1
       simp only [VC, eo, ed, et, g1', g2, g3, eη, ec, cond_false, e1, e2]
       exact ⟨h1, q1, q2, hk'⟩
      ·exact hvc.elim
    ·exact hvc.elim
   ·rename_i κ sz i eκ
    exfalso
    rcases hI.ptr p hp with e | ⟨off', e⟩ | e
    ·rw [hev, e] at eκ; cases eκ
    ·rw [hev, e] at eκ; cases eκ
    ·rw [hev, e] at eκ; cases eκ
   ·exact hvc.elim
  ·exact hvc.elim
 have hev' : ∀ {s' : S}, (∀ t ∈ o.looksAt ops, s'.ρ t = s.ρ t) → s'.ev x = s.ev x := by
  intro s' hs
  cases x with
  | tmp t => exact hs t (looks_op hxo)
  | _ => rfl
 have hst : ∀ {u : U}, (∀ z, u.st = some z → z.1 = p) → ∀ z, (u.nrm P none).st = some z → z.1 = p := by
  intro u hu z hz
  rw [U.nrm_st] at hz
  obtain ⟨y, hy, rfl⟩ := Option.map_eq_some_iff.1 hz
  exact hu y hy
 simp only [vcOps, U.force_eq, S.force_eq, hnm, cond_false] at h
 split at h
 ·rename_i eg
  obtain ⟨hd, u, hk, h1, h2, h3, h4⟩ := core h
  rw [hd] at hk
  refine ⟨hd, u.nrm P none, hk, by rw [U.nrm_kill, h1], by rw [U.nrm_obj', h2]; rfl, hst h3, hI.app, fun s' hs hη K' hK' => ?_⟩
  simp only [vcOps, U.force_eq, S.force_eq, hnm, cond_false, eg]
  refine h4 s' _ (hs p (looks_op hpo)) (hev' hs) hη ?_
  rw [hd]
  exact hK'
 ·rename_i j want eg
  split at h
  ·exact h.elim
  ·rename_i g hg
   split at h
   ·rename_i b eb
    have key : (cond (b == want) (VC C own o s.ev s.η fun u => K (s.app o.dst (u.nrm P o.dst))) (K (s.app o.dst (skU P o.dst)))) := by
     cases b with
     | true => rw [S.put_same eb] at h; cases want <;> exact h
     | false => rw [S.put_same eb] at h; cases want <;> exact h
    have hback : ∀ (s' : S) (K' : S → Prop), s'.ρ g = .p (.bool b) → (cond (b == want) (VC C own o s'.ev s'.η fun u => K' (s'.app o.dst (u.nrm P o.dst))) (K' (s'.app o.dst (skU P o.dst)))) → vcOps C own P ops [o] K' s' := by
     intro s' K' eb' hh
     simp only [vcOps, U.force_eq, S.force_eq, hnm, cond_false, eg, hg, eb']
     cases b with
     | true => simp only [S.put_same eb']; cases want <;> exact hh
     | false => simp only [S.put_same eb']; cases want <;> exact hh
    cases e2 : (b == want) with
    | true =>
     rw [e2] at key
     simp only [cond_true] at key
     obtain ⟨hd, u, hk, h1, h2, h3, h4⟩ := core key
     rw [hd] at hk
     refine ⟨hd, u.nrm P none, hk, by rw [U.nrm_kill, h1], by rw [U.nrm_obj', h2]; rfl, hst h3, hI.app, fun s' hs hη K' hK' => hback s' K' (by rw [hs g (looks_guard eg hg)]; exact eb) ?_⟩
     rw [e2]
     refine h4 s' _ (hs p (looks_op hpo)) (hev' hs) hη ?_
     rw [hd]
     exact hK'
    | false =>
     rw [e2] at key
     simp only [cond_false] at key
     rw [hdn] at key
     refine ⟨hdn, skU P none, key, rfl, rfl, fun z hz => (by cases hz), hI.appNo, fun s' hs hη K' hK' => hback s' K' (by rw [hs g (looks_guard eg hg)]; exact eb) ?_⟩
     rw [e2]
     simp only [cond_false]
     rw [hdn]
     exact hK'
   ·rename_i eb
    rw [hdn] at h
    refine ⟨hdn, skU P none, h, rfl, rfl, fun z hz => (by cases hz), hI.appNo, fun s' hs hη K' hK' => ?_⟩
    have eb' := (hs g (looks_guard eg hg)).trans eb
    simp only [vcOps, S.force_eq, eg, hg, eb']
    rw [hdn]
    exact hK'
   ·exact h.elim
theorem app_st_ρ {s : S} {u : U} (h : u.kill = none) (t : Nat) : (s.app none u).ρ t = s.ρ t := by
 rw [app_ρ, if_neg (by simp)]
 unfold S.base
 rw [h]
theorem app_st_η {s : S} {u : U} {p : Nat} (h : u.kill = none) (h' : ∀ z, u.st = some z → z.1 = p) {κ : Nat} (hκ : κ ≠ p) : (s.app none u).η κ = s.η κ := by
 rw [app_η]
 simp only [reduceCtorEq, if_false]
 have hb : s.base u = s := by unfold S.base; rw [h]
 rw [hb]
 split
 ·rename_i q o e
  have : q = p := h' _ e
  rw [if_neg (by omega)]
 ·rfl
theorem app_comm_st {s : S} {y : Option Nat} {u v : U} {p : Nat} (hu : u.kill = none) (hu2 : u.obj = none) (hu3 : ∀ z, u.st = some z → z.1 = p) (hv : v.st = none) (hv' : v.kill = none) (hy : y ≠ some p) :
  (s.app none u).app y v = (s.app y v).app none u := by
 obtain ⟨ux, uo, us, uk⟩ := u
 obtain ⟨vx, vo, vs, vk⟩ := v
 simp only at hu hu2 hu3 hv hv'
 subst hu hu2 hv hv'
 cases us with
 | none => rfl
 | some z =>
  obtain ⟨q, o⟩ := z
  have hq : q = p := hu3 _ rfl
  subst hq
  cases y with
  | none => rfl
  | some e =>
   have hne : e ≠ q := fun he => hy (by rw [he])
   have hb : ∀ t, Nat.beq t q = true → Nat.beq t e = true → False := fun t h1 h2 => hne ((Nat.beq_eq.mp h2).symm.trans (Nat.beq_eq.mp h1))
   obtain ⟨ρ, η⟩ := s
   cases vo with
   | none => rfl
   | some o' =>
    simp only [S.app, S.put, S.set, S.mk.injEq, true_and]
    funext t
    cases h1 : Nat.beq t q <;> cases h2 : Nat.beq t e <;> first | rfl | exact (hb t h1 h2).elim
theorem vc_swap_sx {P : List Nat} {o x : Oper} {p : Nat} (ho : stO P o = some p) (hfx : freeO own x = true) (hn : noTmp p x = true) (h1 : o.apart ops x = true) (h2 : x.apart ops o = true) {s : S} (hI : Inv P s) {K : S → Prop}
  (h : vcOps C own P ops [o] (vcOps C own P ops [x] K) s) : vcOps C own P ops [x] (vcOps C own P ops [o] K) s := by
 obtain ⟨t, y, eo, hp, _⟩ := stO_spec ho
 have hpo : p ∈ o.looksAt ops := looks_op (by simp [eo, Op.operands])
 obtain ⟨b1, b2, b3⟩ := Oper.apart_spec h2
 have hxp : ∀ d, x.dst = some d → d ≠ p := fun d hd e => b1 d hd (e ▸ hpo)
 obtain ⟨hd, u, hK, u1, u2, u3, hI1, u4⟩ := step1_store ho hI h
 obtain ⟨v, hK2, v1, v2, v3, _, v4⟩ := step1_free hfx hK
 refine v4 s (fun t ht => (app_st_ρ u1 t).symm) (fun κ hκ => (app_st_η u1 u3 (hI1.reach hp hn hκ)).symm) (fun d hd => (app_st_η u1 u3 (hxp d hd)).symm) _ ?_
 refine u4 _ (fun t ht => app_ρ_ne v1 v2 fun e => b1 t e ht) (app_η_ne v1 v2 (.inl fun e => hxp p e rfl)) _ ?_
 rw [← app_comm_st u1 u2 u3 v1 v2 (fun e => hxp p e rfl)]
 exact hK2
theorem vc_swap_xs {P : List Nat} {o x : Oper} {p : Nat} (ho : stO P o = some p) (hfx : freeO own x = true) (hn : noTmp p x = true) (h1 : o.apart ops x = true) (h2 : x.apart ops o = true) {s : S} (hI : Inv P s) {K : S → Prop}
  (h : vcOps C own P ops [x] (vcOps C own P ops [o] K) s) : vcOps C own P ops [o] (vcOps C own P ops [x] K) s := by
 obtain ⟨t, y, eo, hp, _⟩ := stO_spec ho
 have hpo : p ∈ o.looksAt ops := looks_op (by simp [eo, Op.operands])
 obtain ⟨b1, b2, b3⟩ := Oper.apart_spec h2
 have hxp : ∀ d, x.dst = some d → d ≠ p := fun d hd e => b1 d hd (e ▸ hpo)
 obtain ⟨v, hK, v1, v2, v3, hI', v4⟩ := step1_free hfx h
 obtain ⟨hd, u, hK2, u1, u2, u3, _, u4⟩ := step1_store ho (hI' hI) hK
 refine u4 s (fun t ht => (app_ρ_ne v1 v2 fun e => b1 t e ht).symm) (app_η_ne v1 v2 (.inl fun e => hxp p e rfl)).symm _ ?_
 refine v4 _ (fun t ht => app_st_ρ u1 t) (fun κ hκ => app_st_η u1 u3 (hI.reach hp hn hκ)) (fun d hd => app_st_η u1 u3 (hxp d hd)) _ ?_
 rw [app_comm_st u1 u2 u3 v1 v2 (fun e => hxp p e rfl)]
 exact hK2
theorem apO_spec {P : List Nat} {o : Oper} {p : Nat} (h : apO own P o = some p) : ∃ c y d, o.op = .call c ∧ c.callee = .builtin .append ∧ c.args.toList = [.tmp p, y] ∧ o.dst = some d ∧ own (d + 200000) = true ∧ p ∈ P ∧ own (d + 400000) = false := by
 unfold apO at h
 split at h
 ·rename_i c d e ed
  split at h
  ·rename_i p' y ec ea
   cases e2 : (own (d + 200000) && P.contains p' && !own (d + 400000)) with
   | true =>
    rw [e2] at h
    simp only [cond_true, Option.some.injEq] at h
    subst h
    rw [Bool.and_eq_true, Bool.and_eq_true] at e2
    exact ⟨c, y, d, e, ec, ea, ed, e2.1.1, by simpa using e2.1.2, by simpa using e2.2⟩
   | false => rw [e2] at h; cases h
  ·cases h
 ·cases h
mutual
theorem keys_of_men : ∀ (x : SV) (κ : Nat), x.men κ = true → κ ∈ x.keys
 | .no, κ, h => by simp [SV.men] at h
 | .p _, κ, h => by simp [SV.men] at h
 | .elt _, κ, h => by simp [SV.men] at h
 | .eltF _ _, κ, h => by simp [SV.men] at h
 | .glob _, κ, h => by simp [SV.men] at h
 | .nilQ _, κ, h => by simp [SV.men] at h
 | .ptr κ' _, κ, h => by simp [SV.men] at h; simp [SV.keys, h]
 | .slc κ', κ, h => by simp [SV.men] at h; simp [SV.keys, h]
 | .rowE κ' _ _, κ, h => by simp [SV.men] at h; simp [SV.keys, h]
 | .tl κ' _ _, κ, h => by simp [SV.men] at h; simp [SV.keys, h]
 | .fn _ caps, κ, h => by simpa [SV.keys] using keys_of_menL caps κ (by simpa [SV.men] using h)
 | .mix cs, κ, h => by simpa [SV.keys] using keys_of_menL cs κ (by simpa [SV.men] using h)
 | .tupS cs, κ, h => by simpa [SV.keys] using keys_of_menL cs κ (by simpa [SV.men] using h)
theorem keys_of_menL : ∀ (l : List SV) (κ : Nat), SV.menL κ l = true → κ ∈ SV.keysL l
 | [], κ, h => by simp [SV.menL] at h
 | x :: l, κ, h => by
  simp only [SV.menL, Bool.or_eq_true] at h
  simp only [SV.keysL, List.mem_append]
  rcases h with h | h
  ·exact .inl (keys_of_men x κ h)
  ·exact .inr (keys_of_menL l κ h)
end
structure Moved (s : S) (d p : Nat) (u : U) : Prop where
 st : u.st = none
 kill : u.kill = none ∨ u.kill = some p
 obj : ∀ o', u.obj = some o' → s.η d = .no
theorem purge_eq {x : SV} {κ : Nat} (h : κ ∉ x.keys) : x.purge κ = x := by
 have one : ∀ y : SV, κ ∉ y.keys → y.men κ = false := by
  intro y hy
  cases e : y.men κ with
  | false => rfl
  | true => exact absurd (keys_of_men y κ e) hy
 cases x with
 | mix cs =>
  show SV.mix (cs.map fun x => cond (x.men κ) .no x) = .mix cs
  congr 1
  have : ∀ l : List SV, κ ∉ SV.keysL l → l.map (fun x => cond (x.men κ) .no x) = l := by
   intro l
   induction l with
   | nil => intro _; rfl
   | cons y l ih =>
    intro hl
    simp only [SV.keysL, List.mem_append, not_or] at hl
    simp only [List.map_cons, one y hl.1, cond_false, ih hl.2]
  exact this cs h
 | _ => first | rfl | (show cond _ _ _ = _; rw [one _ h]; rfl) | (simp only [SV.purge, one _ h, cond_false])
theorem purgeO_eq {o : AO} {κ : Nat} (h : κ ∉ o.keys) : o.purge κ = o := by
 cases o with
 | var own t x => show AO.var own t (x.purge κ) = _; rw [purge_eq h]
 | fm t ks xs => have := purge_eq (x := .mix xs) h; show AO.fm t ks (xs.map fun x => cond (x.men κ) .no x) = _; have e : SV.mix (xs.map fun x => cond (x.men κ) .no x) = .mix xs := this; injection e with e; rw [e]
 | rp t xs => have := purge_eq (x := .mix xs) h; show AO.rp t (xs.map fun x => cond (x.men κ) .no x) = _; have e : SV.mix (xs.map fun x => cond (x.men κ) .no x) = .mix xs := this; injection e with e; rw [e]
 | _ => rfl
theorem moved_ρ {P : List Nat} {s : S} (hI : Inv P s) {p d : Nat} (hp : p ∈ P) {u : U} (hm : Moved s d p u) {t : Nat} (ht : t ≠ d) (ht2 : t ≠ p) : (s.app (some d) u).ρ t = s.ρ t := by
 rw [app_ρ, if_neg (fun e => ht (Option.some.inj e).symm)]
 unfold S.base
 rcases hm.kill with e | e
 ·rw [e]
 ·rw [e]; exact purge_eq (hI.ρ p hp t ht2)
theorem moved_η {P : List Nat} {s : S} (hI : Inv P s) {p d : Nat} (hp : p ∈ P) {u : U} (hm : Moved s d p u) {κ : Nat} (hκ : κ ≠ p) (hd : κ ≠ d ∨ (s.η κ).live = true) : (s.app (some d) u).η κ = s.η κ := by
 have hb : (s.base u).η κ = s.η κ := by
  unfold S.base
  rcases hm.kill with e | e
  ·rw [e]
  ·rw [e]
   show cond (Nat.beq κ p) .no ((s.η κ).purge p) = _
   rw [beq_ite, if_neg hκ]
   exact purgeO_eq (hI.η p hp κ)
 rw [app_η, hm.st]
 split
 ·rename_i o' e
  split at e
  ·rename_i e2
   have e2 : d = κ := Option.some.inj e2
   have := hm.obj o' e
   rcases hd with hd | hd
   ·exact absurd e2.symm hd
   ·rw [← e2, this] at hd; cases hd
  ·cases e
 ·exact hb
theorem app_comm_mv {P : List Nat} {s : S} {y : Option Nat} {d p : Nat} {u v : U} (hp : p ∈ P) (hm : Moved s d p u) (hv : v.st = none) (hv' : v.kill = none) (hy : y ≠ some p) (hyd : y ≠ some d) (hI : Inv P (s.app y v)) :
  (s.app (some d) u).app y v = (s.app y v).app (some d) u := by
 have ext : ∀ a b : S, (∀ t, a.ρ t = b.ρ t) → (∀ t, a.η t = b.η t) → a = b := by
  rintro ⟨ρ, η⟩ ⟨ρ', η'⟩ h1 h2
  have h1 : ρ = ρ' := funext h1
  have h2 : η = η' := funext h2
  rw [h1, h2]
 have bv : ∀ s : S, s.base v = s := fun s => by unfold S.base; rw [hv']
 refine ext _ _ (fun t => ?_) (fun κ => ?_)
 ·rw [app_ρ, app_ρ, bv, app_ρ]
  by_cases e1 : y = some t
  ·have e2 : ¬ (some d = some t) := fun h => hyd (by rw [e1, h])
   rw [if_pos e1, if_neg e2]
   have hx : p ∉ v.x.keys := by
    have := hI.ρ p hp t (fun h => hy (by rw [e1, h]))
    rw [app_ρ, if_pos e1] at this; exact this
   unfold S.base
   rcases hm.kill with e | e
   ·rw [e]; show _ = (s.app y v).ρ t; rw [app_ρ, if_pos e1]
   ·rw [e]; show _ = ((s.app y v).ρ t).purge p; rw [app_ρ, if_pos e1, purge_eq hx]
  ·rw [if_neg e1]
   by_cases e2 : some d = some t
   ·rw [if_pos e2, if_pos e2]
   ·rw [if_neg e2, if_neg e2]
    unfold S.base
    rcases hm.kill with e | e
    ·rw [e]; show _ = (s.app y v).ρ t; rw [app_ρ, if_neg e1, bv]
    ·rw [e]; show (s.ρ t).purge p = ((s.app y v).ρ t).purge p; rw [app_ρ, if_neg e1, bv]
 ·rw [app_η _ y v, app_η _ (some d) u, hm.st, hv, bv, app_η s (some d) u, hm.st]
  have hb : ∀ o', (if y = some κ then v.obj else none) = some o' → ((s.app y v).base u).η κ = o' := by
   intro o' e
   have e1 : y = some κ := by
    by_cases e1 : y = some κ
    ·exact e1
    ·rw [if_neg e1] at e; cases e
   have hη : (s.app y v).η κ = o' := by rw [app_η, hv, e]
   have hx : p ∉ o'.keys := by have := hI.η p hp κ; rw [hη] at this; exact this
   unfold S.base
   rcases hm.kill with e3 | e3
   ·rw [e3]; exact hη
   ·rw [e3]
    show cond (Nat.beq κ p) .no (((s.app y v).η κ).purge p) = o'
    rw [beq_ite, if_neg (fun h => hy (by rw [e1, h])), hη, purgeO_eq hx]
  have hn : (if y = some κ then v.obj else none) = none → ((s.app y v).base u).η κ = (s.base u).η κ := by
   intro e
   have hη : (s.app y v).η κ = s.η κ := by rw [app_η, hv, e, bv]
   unfold S.base
   rcases hm.kill with e3 | e3
   ·rw [e3]; exact hη
   ·rw [e3]
    show cond (Nat.beq κ p) .no (((s.app y v).η κ).purge p) = cond (Nat.beq κ p) .no ((s.η κ).purge p)
    rw [hη]
  cases e1 : (if y = some κ then v.obj else none) with
  | some o' =>
   have e2 : ¬ (some d = some κ) := fun h => by
    by_cases e3 : y = some κ
    ·exact hyd (by rw [e3, h])
    ·rw [if_neg e3] at e1; cases e1
   simp only [if_neg e2]
   rw [hb o' e1]
  | none =>
   simp only
   rw [hn e1]
theorem step1_ap {P : List Nat} {o : Oper} {p : Nat} (ho : apO own P o = some p) {s : S} (hI : Inv P s) {K : S → Prop} (h : vcOps C own P ops [o] K s) :
  ∃ d, o.dst = some d ∧ p ∈ o.looksAt ops ∧ ∃ u, K (s.app (some d) u) ∧ Moved s d p u ∧ Inv P (s.app (some d) u) ∧
   ∀ s' : S, (∀ t ∈ o.looksAt ops, s'.ρ t = s.ρ t) → s'.η p = s.η p → s'.η d = s.η d → ∀ K' : S → Prop, K' (s'.app (some d) u) → vcOps C own P ops [o] K' s' := by
 obtain ⟨c, y, d, eo, ec, ea, ed, e20, hp, e40⟩ := apO_spec ho
 have hnm : isMut own o = false := by simp [isMut, eo, ed, ec]
 have hops : ∀ z ∈ c.args.toList, z ∈ o.op.operands := fun z hz => by
  have : z ∈ c.args := by simpa using hz
  simp [eo, Op.operands, Call.operands, this]
 have hpo : Operand.tmp p ∈ o.op.operands := hops _ (by rw [ea]; simp)
 have hyo : y ∈ o.op.operands := hops _ (by rw [ea]; simp)
 have core : ∀ {k : U → Prop}, VC C own o s.ev s.η k → ∃ u, k u ∧ Moved s d p u ∧
   ∀ (s' : S) (k' : U → Prop), s'.ρ p = s.ρ p → s'.ev y = s.ev y → s'.η p = s.η p → s'.η d = s.η d → k' u → VC C own o s'.ev s'.η k' := by
  intro k hvc
  obtain ⟨callee, args, argTypes⟩ := c
  simp only at ec ea
  subst ec
  simp only [VC, eo, ed, ea] at hvc
  split at hvc
  ·rename_i d' x' y' t t' q1 q2 q3
   cases q1
   cases q2
   cases ett : Nat.beq t t' with
   | false => rw [ett] at hvc; exact hvc.elim
   | true =>
   rw [ett] at hvc
   simp only [cond_true, e40, cond_false] at hvc
   split at hvc
   ·rename_i ti eT
    split at hvc
    ·rename_i te M eE eM
     obtain ⟨h1, h2, h3, h4, hvc⟩ := hvc
     have hev : s.ev (.tmp p) = s.ρ p := rfl
     split at hvc
     ·rename_i ex
      exfalso
      rcases hI.ptr p hp with e | ⟨off', e⟩ | e
      ·rw [hev, e] at ex; cases ex
      ·rw [hev, e] at ex; cases ex
      ·rw [hev, e] at ex; cases ex
     ·rename_i κ ex
      have hκ : κ = p := by
       rcases hI.ptr p hp with e | ⟨off', e⟩ | e
       ·rw [hev, e] at ex; cases ex
       ·rw [hev, e] at ex; cases ex
       ·rw [hev, e] at ex; cases ex; rfl
      subst hκ
      split at hvc
      ·rename_i e sz L eη
       obtain ⟨g1, g2, g3, g4, hvc⟩ := hvc
       rw [e20] at hvc
       simp only [cond_true] at hvc
       obtain ⟨g5, hvc⟩ := hvc
       split at hvc
       ·rename_i eηd
        refine ⟨_, hvc, ⟨rfl, .inr rfl, fun _ _ => eηd⟩, fun s' k' w1 w2 w3 w4 hk' => ?_⟩
        have w1' : s'.ev (.tmp κ) = .slc κ := by rw [← ex]; exact w1
        simp only [VC, eo, ed, ea, q3, ett, cond_true, cond_false, e40, eT, eE, w2, eM, w1', w3, eη, e20, w4, eηd]
        exact ⟨h1, h2, h3, h4, g1, g2, g3, g4, g5, hk'⟩
       ·exact hvc.elim
      ·exact hvc.elim
     ·exact hvc.elim
    ·exact hvc.elim
   ·exact hvc.elim
  ·exact hvc.elim
 have hev' : ∀ {s' : S}, (∀ t ∈ o.looksAt ops, s'.ρ t = s.ρ t) → s'.ev y = s.ev y := by
  intro s' hs
  cases y with
  | tmp t => exact hs t (looks_op hyo)
  | _ => rfl
 have hmv : ∀ {u : U}, Moved s d p u → Moved s d p (u.nrm P (some d)) := fun {u} hm =>
  ⟨by rw [U.nrm_st, hm.st]; rfl, by rw [U.nrm_kill]; exact hm.kill, nrm_obj_some hm.obj⟩
 have hsk : Moved s d p (skU P (some d)) := ⟨rfl, .inl rfl, fun o' h => by cases h⟩
 refine ⟨d, ed, looks_op hpo, ?_⟩
 simp only [vcOps, U.force_eq, S.force_eq, hnm, cond_false] at h
 split at h
 ·rename_i eg
  obtain ⟨u, hk, hm, h4⟩ := core h
  rw [ed] at hk
  refine ⟨u.nrm P (some d), hk, hmv hm, hI.app, fun s' hs hη hd K' hK' => ?_⟩
  simp only [vcOps, U.force_eq, S.force_eq, hnm, cond_false, eg]
  refine h4 s' _ (hs p (looks_op hpo)) (hev' hs) hη hd ?_
  rw [ed]
  exact hK'
 ·rename_i j want eg
  split at h
  ·exact h.elim
  ·rename_i g hg
   split at h
   ·rename_i b eb
    have key : (cond (b == want) (VC C own o s.ev s.η fun u => K (s.app o.dst (u.nrm P o.dst))) (K (s.app o.dst (skU P o.dst)))) := by
     cases b with
     | true => rw [S.put_same eb] at h; cases want <;> exact h
     | false => rw [S.put_same eb] at h; cases want <;> exact h
    have hback : ∀ (s' : S) (K' : S → Prop), s'.ρ g = .p (.bool b) → (cond (b == want) (VC C own o s'.ev s'.η fun u => K' (s'.app o.dst (u.nrm P o.dst))) (K' (s'.app o.dst (skU P o.dst)))) → vcOps C own P ops [o] K' s' := by
     intro s' K' eb' hh
     simp only [vcOps, U.force_eq, S.force_eq, hnm, cond_false, eg, hg, eb']
     cases b with
     | true => simp only [S.put_same eb']; cases want <;> exact hh
     | false => simp only [S.put_same eb']; cases want <;> exact hh
    cases e2 : (b == want) with
    | true =>
     rw [e2] at key
     simp only [cond_true] at key
     obtain ⟨u, hk, hm, h4⟩ := core key
     rw [ed] at hk
     refine ⟨u.nrm P (some d), hk, hmv hm, hI.app, fun s' hs hη hd K' hK' => hback s' K' (by rw [hs g (looks_guard eg hg)]; exact eb) ?_⟩
     rw [e2]
     refine h4 s' _ (hs p (looks_op hpo)) (hev' hs) hη hd ?_
     rw [ed]
     exact hK'
    | false =>
     rw [e2] at key
     simp only [cond_false] at key
     rw [ed] at key
     refine ⟨skU P (some d), key, hsk, hI.appNo, fun s' hs hη hd K' hK' => hback s' K' (by rw [hs g (looks_guard eg hg)]; exact eb) ?_⟩
     rw [e2]
     simp only [cond_false]
     rw [ed]
     exact hK'
   ·rename_i eb
    rw [ed] at h
    refine ⟨skU P (some d), h, hsk, hI.appNo, fun s' hs hη hd K' hK' => ?_⟩
    have eb' := (hs g (looks_guard eg hg)).trans eb
    simp only [vcOps, S.force_eq, eg, hg, eb']
    rw [ed]
    exact hK'
   ·exact h.elim
theorem reach_live {s : S} (hw : WF s) {x : Oper} {κ : Nat} (hr : Reach s.η (opKeys s x) κ) : (s.η κ).live = true :=
 wf_reach hw (fun κ hk => by
  obtain ⟨y, _, hy⟩ := List.mem_flatMap.1 hk
  exact wf_keys hw hy) hr
theorem vc_swap_ax {P : List Nat} {o x : Oper} {p : Nat} (ho : apO own P o = some p) (hfx : freeO own x = true) (hn : noTmp p x = true) (hl : p ∉ x.looksAt ops) (h1 : o.apart ops x = true) (h2 : x.apart ops o = true) {s : S} (hw : WF s) (hI : Inv P s) {K : S → Prop}
  (h : vcOps C own P ops [o] (vcOps C own P ops [x] K) s) : vcOps C own P ops [x] (vcOps C own P ops [o] K) s := by
 obtain ⟨_, _, _, _, _, _, _, _, hp, _⟩ := apO_spec ho
 obtain ⟨a1, a2, a3⟩ := Oper.apart_spec h1
 obtain ⟨b1, b2, b3⟩ := Oper.apart_spec h2
 obtain ⟨d, ed, hpl, u, hK, hm, hI1, u4⟩ := step1_ap ho hI h
 obtain ⟨v, hK2, v1, v2, v3, hIv, v4⟩ := step1_free hfx hK
 have hxp : ∀ e, x.dst = some e → e ≠ p := fun e he h => b1 e he (h ▸ hpl)
 have hxd : ∀ e, x.dst = some e → e ≠ d := fun e he h => a2 d ed (by rw [he, h])
 have htx : ∀ t ∈ x.looksAt ops, t ≠ d := fun t ht h => a1 d ed (h ▸ ht)
 have htp : ∀ y ∈ x.op.operands, ∀ t, y = .tmp t → t ≠ p := fun y hy t e => by subst e; exact noTmp_spec hn hy
 have hρ : ∀ t ∈ x.looksAt ops, (s.app (some d) u).ρ t = s.ρ t := by
  intro t ht
  by_cases e : t = p
  ·exact absurd (e ▸ ht) hl
  ·exact moved_ρ hI hp hm (htx t ht) e
 have hreach : ∀ κ, Reach (s.app (some d) u).η (opKeys (s.app (some d) u) x) κ → (s.app (some d) u).η κ = s.η κ ∧ (s.η κ).live = true := by
  have hs : ∀ κ, κ ≠ p → (s.η κ).live = true → (s.app (some d) u).η κ = s.η κ := fun κ h1 h2 => moved_η hI hp hm h1 (.inr h2)
  intro κ hr
  have hne := hI1.reach hp hn hr
  have : (s.η κ).live = true := by
   induction hr with
   | base hk =>
    obtain ⟨y, hy, hk⟩ := List.mem_flatMap.1 hk
    have hy : y ∈ x.op.operands := by simpa using hy
    refine wf_keys hw (x := y) ?_
    cases y with
    | tmp t =>
     change _ ∈ ((s.app (some d) u).ρ t).keys at hk
     rw [hρ t (looks_op hy)] at hk
     exact hk
    | _ => exact hk
   | step hr' hk ih =>
    have hne' := hI1.reach hp hn hr'
    rw [hs _ hne' (ih hne')] at hk
    exact hw.η _ _ hk
  exact ⟨hs κ hne this, this⟩
 have hIs : Inv P (s.app x.dst v) := by
  obtain ⟨v', hv', _, _, _, hIv', _⟩ := step1_free (P := P) hfx (s := s) (K := fun σ => σ = s.app x.dst v) (v4 s (fun t ht => (hρ t ht).symm) (fun κ hκ => (hreach κ hκ).1.symm) (fun e he => (moved_η hI hp hm (hxp e he) (.inl (hxd e he))).symm) _ rfl)
  have := hIv' hI
  rw [hv'] at this; exact this
 refine v4 s (fun t ht => (hρ t ht).symm) (fun κ hκ => (hreach κ hκ).1.symm) (fun e he => (moved_η hI hp hm (hxp e he) (.inl (hxd e he))).symm) _ ?_
 refine u4 _ (fun t ht => app_ρ_ne v1 v2 fun e => b1 t e ht) (app_η_ne v1 v2 (.inl fun e => hxp p e rfl)) (app_η_ne v1 v2 (.inl fun e => hxd d e rfl)) _ ?_
 rw [← app_comm_mv hp hm v1 v2 (fun e => hxp p e rfl) (fun e => hxd d e rfl) hIs]
 exact hK2
theorem vc_swap_xa {P : List Nat} {o x : Oper} {p : Nat} (ho : apO own P o = some p) (hfx : freeO own x = true) (hn : noTmp p x = true) (hl : p ∉ x.looksAt ops) (h1 : o.apart ops x = true) (h2 : x.apart ops o = true) {s : S} (hw : WF s) (hI : Inv P s) {K : S → Prop}
  (h : vcOps C own P ops [x] (vcOps C own P ops [o] K) s) : vcOps C own P ops [o] (vcOps C own P ops [x] K) s := by
 obtain ⟨_, _, _, _, _, _, _, _, hp, _⟩ := apO_spec ho
 obtain ⟨a1, a2, a3⟩ := Oper.apart_spec h1
 obtain ⟨b1, b2, b3⟩ := Oper.apart_spec h2
 obtain ⟨v, hK, v1, v2, v3, hI', v4⟩ := step1_free hfx h
 have hIs := hI' hI
 obtain ⟨d, ed, hpl, u, hK2, hm, _, u4⟩ := step1_ap ho hIs hK
 have hxp : ∀ e, x.dst = some e → e ≠ p := fun e he h => b1 e he (h ▸ hpl)
 have hxd : ∀ e, x.dst = some e → e ≠ d := fun e he h => a2 d ed (by rw [he, h])
 have htx : ∀ t ∈ x.looksAt ops, t ≠ d := fun t ht h => a1 d ed (h ▸ ht)
 have hηd : (s.app x.dst v).η d = s.η d := app_η_ne v1 v2 (.inl fun e => hxd d e rfl)
 have hm' : Moved s d p u := ⟨hm.st, hm.kill, fun o' h => by rw [← hηd]; exact hm.obj o' h⟩
 refine u4 s (fun t ht => (app_ρ_ne v1 v2 fun e => b1 t e ht).symm) (app_η_ne v1 v2 (.inl fun e => hxp p e rfl)).symm hηd.symm _ ?_
 refine v4 _ (fun t ht => ?_) (fun κ hκ => moved_η hI hp hm' (hI.reach hp hn hκ) (.inr (reach_live hw hκ))) (fun e he => moved_η hI hp hm' (hxp e he) (.inl (hxd e he))) _ ?_
 ·by_cases e : t = p
  ·exact absurd (e ▸ ht) hl
  ·exact moved_ρ hI hp hm' (htx t ht) e
 ·rw [app_comm_mv hp hm' v1 v2 (fun e => hxp p e rfl) (fun e => hxd d e rfl) hIs]
  exact hK2
theorem pureO_spec {x : Oper} (h : pureO own x = true) : ∃ d, x.dst = some d ∧ x.guard = none ∧ isMut own x = false := by
 unfold pureO at h
 split at h
 ·rename_i d e1 e2
  refine ⟨d, e1, e2, ?_⟩
  unfold isMut
  split
  ·rename_i c d' e3 e4
   rw [e3] at h
   cases h
  ·rfl
 ·cases h
theorem mutQ_spec {o : Oper} (h : mutQ own o = true) : ∃ d, o.dst = some d ∧ o.guard = none ∧ isMut own o = true ∧ own (d + 700000) = true := by
 unfold mutQ at h
 split at h
 ·rename_i d e1 e2
  rw [Bool.and_eq_true] at h
  exact ⟨d, e1, e2, h.1, h.2⟩
 ·cases h
structure Bare (u : U) : Prop where
 a : u.obj = none
 b : u.st = none
 c : u.kill = none
theorem pure_any {x : Oper} (hp : pureO own x = true) {ev : Operand → SV} {η : Nat → AO} {k : U → Prop} (h : VC C own x ev η k) :
  ∃ v : SV, k { x := v } ∧ ∀ (ev' : Operand → SV) (η' : Nat → AO) (k' : U → Prop), (∀ y ∈ x.op.operands, ev' y = ev y) → k' { x := v } → VC C own x ev' η' k' := by
 obtain ⟨d, ed, eg, hnm⟩ := pureO_spec hp
 have mv : ∀ {t : Nat} {y : SV} {η : Nat → AO} {k : U → Prop}, own d = false → (mvVC C own x.dst t η y k ↔ k { x := y }) := by
  intro t y η k ho
  unfold mvVC
  have : ownNil own x.dst y = false := by
   rw [ed]
   unfold ownNil
   split
   ·rename_i d' e
    cases e
    exact ho
   ·rfl
  rw [this]
  exact Iff.rfl
 unfold pureO at hp
 rw [ed, eg] at hp
 simp only at hp
 split at hp
 ·rename_i y e
  have ho : own d = false := by simpa using hp
  simp only [VC, e] at h
  refine ⟨ev y, (mv ho).1 h, fun ev' η' k' he hk => ?_⟩
  simp only [VC, e, he y (by simp [e, Op.operands])]
  exact (mv ho).2 hk
 ·rename_i y e
  have ho : own d = false := by simpa using hp
  simp only [VC, e] at h
  refine ⟨ev y, (mv ho).1 h, fun ev' η' k' he hk => ?_⟩
  simp only [VC, e, he y (by simp [e, Op.operands])]
  exact (mv ho).2 hk
 ·rename_i y e
  simp only [VC, e] at h
  split at h
  ·rename_i κ off ey
   refine ⟨_, h, fun ev' η' k' he hk => ?_⟩
   simp only [VC, e, he y (by simp [e, Op.operands]), ey]
   exact hk
  ·rename_i κ sz i ey
   refine ⟨_, h, fun ev' η' k' he hk => ?_⟩
   simp only [VC, e, he y (by simp [e, Op.operands]), ey]
   exact hk
  ·exact h.elim
 ·rename_i op t y z t2 e
  obtain ⟨u, hk, h1, h2, h3, h4⟩ := free_binOp (η := fun _ => .no) (l := []) e (k := fun u => k u ∧ Bare u) (C := C) (own := own) (o := x) (ev := ev) (by
   simp only [VC, e] at h ⊢
   split at h
   ·obtain ⟨h0, h⟩ := h
    obtain ⟨r, hr, hr'⟩ := intBin_free h
    exact ⟨h0, hr' _ ⟨hr, ⟨rfl, rfl, rfl⟩⟩⟩
   ·obtain ⟨r, hr, hr'⟩ := strBin_free h
    exact hr' _ ⟨hr, ⟨rfl, rfl, rfl⟩⟩
   ·split at h
    ·exact ⟨h.1, h.2, ⟨rfl, rfl, rfl⟩⟩
    ·exact ⟨h.1, h.2, ⟨rfl, rfl, rfl⟩⟩
    ·exact h.elim
   ·split at h
    ·exact ⟨h.1, h.2, ⟨rfl, rfl, rfl⟩⟩
    ·exact h.elim
   ·unfold nilVC at h ⊢
    split at h
    ·unfold cxVC at h ⊢
     split at h
     ·obtain ⟨h1, r, h2, h3⟩ := h
      exact ⟨h1, r, h2, h3, ⟨rfl, rfl, rfl⟩⟩
     ·exact h.elim
    ·split at h
     ·obtain ⟨h1, h2, h3⟩ := h
      refine ⟨h1, h2, ?_⟩
      split at h3
      ·exact ⟨h3, ⟨rfl, rfl, rfl⟩⟩
      ·exact ⟨h3, ⟨rfl, rfl, rfl⟩⟩
      ·exact h3.elim
     ·exact h.elim)
  obtain ⟨hk, q1, q2, q3⟩ := hk
  obtain ⟨v, obj, st, kill⟩ := u
  simp only at q1 q2 q3
  subst q1 q2 q3
  refine ⟨v, hk, fun ev' η' k' he hk' => ?_⟩
  have := h4 ev' (fun _ => .no) k' he (fun _ _ => rfl) (fun _ _ => rfl) hk'
  simp only [VC, e] at this ⊢
  exact this
 ·rename_i op t y e
  simp only [VC, e] at h
  split at h
  ·rename_i b e1
   refine ⟨_, h, fun ev' η' k' he hk => ?_⟩
   simp only [VC, e, he y (by simp [e, Op.operands]), e1]
   exact hk
  ·rename_i j n e1
   obtain ⟨r, hr, h⟩ := h
   refine ⟨_, h, fun ev' η' k' he hk => ?_⟩
   simp only [VC, e, he y (by simp [e, Op.operands]), e1]
   exact ⟨r, hr, hk⟩
  ·rename_i j n e1
   obtain ⟨r, hr, hr'⟩ := intBin_free h
   refine ⟨_, hr, fun ev' η' k' he hk => ?_⟩
   simp only [VC, e, he y (by simp [e, Op.operands]), e1]
   exact hr' _ hk
  ·exact h.elim
 ·rename_i t y f e
  simp only [VC, e] at h
  split at h
  ·exact h.elim
  ·rename_i ti et
   split at h
   ·rename_i off n ef
    obtain ⟨h1, h⟩ := h
    split at h
    ·rename_i κ o' ey
     refine ⟨_, h, fun ev' η' k' he hk => ?_⟩
     simp only [VC, e, he y (by simp [e, Op.operands]), ey, et, ef]
     exact ⟨h1, hk⟩
    ·rename_i z ey
     refine ⟨_, h, fun ev' η' k' he hk => ?_⟩
     simp only [VC, e, he y (by simp [e, Op.operands]), ey, et, ef]
     exact ⟨h1, hk⟩
    ·rename_i z o' ey
     refine ⟨_, h, fun ev' η' k' he hk => ?_⟩
     simp only [VC, e, he y (by simp [e, Op.operands]), ey, et, ef]
     exact ⟨h1, hk⟩
    ·rename_i κ sz i ey
     refine ⟨_, h, fun ev' η' k' he hk => ?_⟩
     simp only [VC, e, he y (by simp [e, Op.operands]), ey, et, ef]
     exact ⟨h1, hk⟩
    ·exact h.elim
   ·exact h.elim
 ·rename_i t y f e
  simp only [VC, e] at h
  split at h
  ·exact h.elim
  ·rename_i ti et
   split at h
   ·rename_i off ef
    obtain ⟨h1, h⟩ := h
    split at h
    ·rename_i cs ey
     split at h
     ·rename_i z ez
      refine ⟨_, h, fun ev' η' k' he hk => ?_⟩
      simp only [VC, e, he y (by simp [e, Op.operands]), ey, et, ef, ez]
      exact ⟨h1, hk⟩
     ·exact h.elim
    ·rename_i cs ey
     split at h
     ·rename_i z ez
      refine ⟨_, h, fun ev' η' k' he hk => ?_⟩
      simp only [VC, e, he y (by simp [e, Op.operands]), ey, et, ef, ez]
      exact ⟨h1, hk⟩
     ·exact h.elim
    ·exact h.elim
   ·rename_i off m hne ef
    obtain ⟨h1, h2, h⟩ := h
    obtain ⟨z, ez, h⟩ := optP_eq h
    refine ⟨_, h, fun ev' η' k' he hk => ?_⟩
    simp only [VC, e, he y (by simp [e, Op.operands]), et, ef]
    exact ⟨h1, h2, optP_mk ez hk⟩
   ·exact h.elim
 ·rename_i y i e
  simp only [VC, e] at h
  split at h
  ·rename_i cs ey
   split at h
   ·rename_i z ez
    refine ⟨_, h, fun ev' η' k' he hk => ?_⟩
    simp only [VC, e, he y (by simp [e, Op.operands]), ey, ez]
    exact hk
   ·exact h.elim
  ·exact h.elim
 ·cases hp
theorem one_pure {x : Oper} (hp : pureO own x = true) {d : Nat} (ed : x.dst = some d) {s : S} {K : S → Prop} : vcOps C own [] ops [x] K s ↔ VC C own x s.ev s.η fun u => K (s.app (some d) u) := by
 obtain ⟨d', e1, eg, hnm⟩ := pureO_spec hp
 simp only [vcOps, U.force_eq, S.force_eq, eg, hnm, cond_false, ed]
 exact Iff.rfl
theorem one_mut {o : Oper} (hm : mutQ own o = true) {s : S} {K : S → Prop} : vcOps C own [] ops [o] K s ↔ MVC C own o s K := by
 obtain ⟨d, ed, eg, hmu, h7⟩ := mutQ_spec hm
 simp only [vcOps, S.force_eq, eg, hmu, cond_true]
 exact Iff.rfl
theorem killL_nil {s : S} {l : List Nat} (h : l = []) : s.killL l = s := by subst h; rfl
theorem mAfter0 {s : S} {g : Nat → Nat} {I O : List (Nat × AO)} {d : Nat} {x : SV} (h : movers g I = []) : mAfter s g I O d x = ⟨fun t => cond (Nat.beq t d) (x.ren g) (s.ρ t), overO g O s.η⟩ := by
 unfold mAfter
 rw [killL_nil h]
theorem overO_same {g : Nat → Nat} : ∀ {O : List (Nat × AO)} {e : Nat → AO} {k : Nat}, (∀ y ∈ O, g y.1 ≠ k) → overO g O e k = e k
 | [], e, k, _ => rfl
 | (κ, o) :: r, e, k, h => by
  show cond (Nat.beq k (g κ)) (o.ren g) (overO g r e k) = e k
  rw [beq_ite, if_neg (fun e' => h (κ, o) (List.mem_cons_self ..) e'.symm), overO_same fun y hy => h y (List.mem_cons_of_mem _ hy)]
theorem mut_spec {o : Oper} (hm : mutQ own o = true) {s : S} {K : S → Prop} (h : MVC C own o s K) : ∃ d y, o.dst = some d ∧ ∃ E : Nat → AO, K ⟨fun t => cond (Nat.beq t d) y (s.ρ t), E⟩ ∧ (own (d + 900000) = true → ∀ κ, κ < 1000 → E κ = s.η κ) ∧
  ∀ (s' : S) (K' : S → Prop), (∀ t ∈ o.looksAt ops, s'.ρ t = s.ρ t) → s'.η = s.η → K' ⟨fun t => cond (Nat.beq t d) y (s'.ρ t), E⟩ → MVC C own o s' K' := by
 obtain ⟨d, ed, eg, hmu, h7⟩ := mutQ_spec hm
 unfold MVC at h
 split at h
 ·rename_i c d' ho ed'
  have : d' = d := by rw [ed] at ed'; exact (Option.some.inj ed').symm
  subst this
  obtain ⟨callee, args, tys⟩ := c
  simp only at h
  split at h
  ·rename_i f
   split at h
   ·rename_i f' caps ef
    rw [SV.forceL_eq, h7, cond_true] at h
    obtain ⟨s1, ⟨I, args0, O, x, g, q1, q2, q3, q4, q5, q6, q7, q8, q9⟩, hk⟩ := h
    rw [S.force_eq, q7, mAfter0 q8] at hk
    refine ⟨d', _, ed', _, hk, fun h9 κ hκ => overO_same fun y hy e => ?_, fun s' K' hρ hη hk' => ?_⟩
    ·rw [h9] at q9
     simp only [Bool.not_true, Bool.false_or, List.all_eq_true] at q9
     have := Nat.le_of_ble_eq_true (q9 y hy)
     omega
    have hev : ∀ y ∈ o.op.operands, s'.ev y = s.ev y := by
     intro y hy
     cases y with
     | tmp t => exact hρ t (looks_op hy)
     | _ => rfl
    have hf : s'.ev f = s.ev f := hev f (by simp [ho, Op.operands, Call.operands])
    have ha : args.toList.map s'.ev = args.toList.map s.ev := List.map_congr_left fun y hy => hev y (by simp [ho, Op.operands, Call.operands]; right; simpa using hy)
    unfold MVC
    rw [ho, ed']
    simp only
    rw [hf, ef]
    simp only
    rw [SV.forceL_eq, h7, cond_true, ha]
    refine ⟨_, ⟨I, args0, O, x, g, q1, q2, fun κ => by rw [hη]; exact q3 κ, q4, fun κ h1 h2 => by rw [hη]; exact q5 κ h1 h2, q6, rfl, q8, q9⟩, ?_⟩
    rw [S.force_eq, mAfter0 q8, hη]
    exact hk'
   ·exact h.elim
  ·exact h.elim
 ·exact h.elim
theorem put_comm {ρ : Nat → SV} {a b : Nat} {x y : SV} (h : a ≠ b) : (fun t => cond (Nat.beq t a) x (cond (Nat.beq t b) y (ρ t))) = fun t => cond (Nat.beq t b) y (cond (Nat.beq t a) x (ρ t)) := by
 funext t
 rw [beq_ite, beq_ite, beq_ite, beq_ite]
 by_cases h1 : t = a
 ·subst h1
  rw [if_pos rfl, if_neg h, if_pos rfl]
 ·rw [if_neg h1, if_neg h1]
theorem vc_swap_mp {o x : Oper} (hm : mutQ own o = true) (hp : pureO own x = true) (h1 : o.apart ops x = true) (h2 : x.apart ops o = true) {s : S} {K : S → Prop}
  (h : vcOps C own [] ops [o] (vcOps C own [] ops [x] K) s) : vcOps C own [] ops [x] (vcOps C own [] ops [o] K) s := by
 obtain ⟨a1, a2, a3⟩ := Oper.apart_spec h1
 obtain ⟨b1, b2, b3⟩ := Oper.apart_spec h2
 obtain ⟨dx, ex, _, _⟩ := pureO_spec hp
 rw [one_mut hm] at h
 obtain ⟨d, y, ed, E, hx, _, hm'⟩ := mut_spec (ops := ops) hm h
 rw [one_pure hp ex] at hx
 obtain ⟨v, hk, hv⟩ := pure_any hp hx
 have hne : d ≠ dx := fun e => a2 d ed (by rw [ex, e])
 rw [one_pure hp ex]
 refine hv _ _ _ (fun z hz => ?_) ?_
 ·cases z with
  | tmp t =>
   have : t ≠ d := fun e => a1 d ed (e ▸ looks_op hz)
   show s.ρ t = cond (Nat.beq t d) y (s.ρ t)
   rw [beq_ite, if_neg this]
  | _ => rfl
 ·rw [one_mut hm]
  refine hm' _ _ (fun t ht => ?_) rfl ?_
  ·have : t ≠ dx := fun e => b1 dx ex (e ▸ ht)
   show cond (Nat.beq t dx) v (s.ρ t) = s.ρ t
   rw [beq_ite, if_neg this]
  ·have e : (⟨fun t => cond (Nat.beq t d) y ((s.app (some dx) { x := v }).ρ t), E⟩ : S) = (⟨fun t => cond (Nat.beq t d) y (s.ρ t), E⟩ : S).app (some dx) { x := v } := by
    show S.mk (fun t => cond (Nat.beq t d) y (cond (Nat.beq t dx) v (s.ρ t))) E = S.mk (fun t => cond (Nat.beq t dx) v (cond (Nat.beq t d) y (s.ρ t))) E
    rw [put_comm hne]
   rw [e]
   exact hk
theorem vc_swap_pm {o x : Oper} (hm : mutQ own o = true) (hp : pureO own x = true) (h1 : o.apart ops x = true) (h2 : x.apart ops o = true) {s : S} {K : S → Prop}
  (h : vcOps C own [] ops [x] (vcOps C own [] ops [o] K) s) : vcOps C own [] ops [o] (vcOps C own [] ops [x] K) s := by
 obtain ⟨a1, a2, a3⟩ := Oper.apart_spec h1
 obtain ⟨b1, b2, b3⟩ := Oper.apart_spec h2
 obtain ⟨dx, ex, _, _⟩ := pureO_spec hp
 rw [one_pure hp ex] at h
 obtain ⟨v, hk, hv⟩ := pure_any hp h
 rw [one_mut hm] at hk
 obtain ⟨d, y, ed, E, hx, _, hm'⟩ := mut_spec (ops := ops) hm hk
 have hne : d ≠ dx := fun e => a2 d ed (by rw [ex, e])
 rw [one_mut hm]
 refine hm' _ _ (fun t ht => ?_) rfl ?_
 ·have : t ≠ dx := fun e => b1 dx ex (e ▸ ht)
  show s.ρ t = cond (Nat.beq t dx) v (s.ρ t)
  rw [beq_ite, if_neg this]
 ·rw [one_pure hp ex]
  refine hv _ _ _ (fun z hz => ?_) ?_
  ·cases z with
   | tmp t =>
    have : t ≠ d := fun e => a1 d ed (e ▸ looks_op hz)
    show cond (Nat.beq t d) y (s.ρ t) = s.ρ t
    rw [beq_ite, if_neg this]
   | _ => rfl
  ·have e : (⟨fun t => cond (Nat.beq t d) y (s.ρ t), E⟩ : S).app (some dx) { x := v } = (⟨fun t => cond (Nat.beq t d) y ((s.app (some dx) { x := v }).ρ t), E⟩ : S) := by
    show S.mk (fun t => cond (Nat.beq t dx) v (cond (Nat.beq t d) y (s.ρ t))) E = S.mk (fun t => cond (Nat.beq t d) y (cond (Nat.beq t dx) v (s.ρ t))) E
    rw [put_comm hne]
   rw [e]
   exact hx
theorem looks_isOne {x : Oper} (hx : pinX x = true) : x.guard = none ∧ ((∃ y, x.op = .move y) ∨ ∃ t y, x.op = .load t y) := by
 unfold pinX at hx
 rw [Bool.and_eq_true, Bool.and_eq_true] at hx
 refine ⟨by simpa using hx.2.1, ?_⟩
 have h := hx.2.2
 split at h
 ·rename_i y e; exact .inl ⟨y, e⟩
 ·rename_i t y e; exact .inr ⟨t, y, e⟩
 ·cases h
theorem pinX_dst {x : Oper} (hx : pinX x = true) : ∃ d, x.dst = some d := by
 unfold pinX at hx
 rw [Bool.and_eq_true] at hx
 exact Option.isSome_iff_exists.1 hx.1
theorem pin_free {x : Oper} (hx : pinX x = true) : freeO own x = true := by
 obtain ⟨_, ⟨y, e⟩ | ⟨t, y, e⟩⟩ := looks_isOne hx
 ·simp [freeO, isMut, freeO1, isTake, freeO0, e]
 ·simp [freeO, isMut, freeO1, isTake, freeO0, e]
theorem pinOk_congr {x : Oper} (hx : pinX x = true) {ev ev' : Operand → SV} (h : ∀ y ∈ x.op.operands, ev' y = ev y) (hp : pinOk x ev) : pinOk x ev' := by
 obtain ⟨_, ⟨y, e⟩ | ⟨t, y, e⟩⟩ := looks_isOne hx
 ·simp only [pinOk, e] at hp ⊢
  rw [h y (by simp [e, Op.operands])]; exact hp
 ·simp only [pinOk, e] at hp ⊢
  rw [h y (by simp [e, Op.operands])]; exact hp
theorem pin_swapF {o x : Oper} (hx : pinX x = true) (ho : freeO own o = true) (h1 : o.apart ops x = true) (h2 : x.apart ops o = true) {s : S} (hw : WF s) (hp : pinOk x s.ev) {K : S → Prop}
  (h : vcOps C own [] ops [x] (vcOps C own [] ops [o] K) s) : vcOps C own [] ops [o] (fun s' => pinOk x s'.ev ∧ vcOps C own [] ops [x] K s') s := by
 obtain ⟨a1, a2, a3⟩ := Oper.apart_spec h1
 have h3 := vc_swap (pin_free hx) ho h2 h1 hw h
 obtain ⟨u, hK, u1, u2, u3, _, u4⟩ := step1_free ho h3
 refine u4 s (fun _ _ => rfl) (fun _ _ => rfl) (fun _ _ => rfl) _ ⟨pinOk_congr hx (fun y hy => ?_) hp, hK⟩
 cases y with
 | tmp t => exact app_ρ_ne u1 u2 fun e => a1 t e (looks_op hy)
 | _ => rfl
theorem one_move {x : Oper} {y : Operand} (e : x.op = .move y) (eg : x.guard = none) {d : Nat} (ed : x.dst = some d) {s : S} {K : S → Prop} (hy : isPin (s.ev y) = true) : vcOps C own [] ops [x] K s ↔ K (s.app (some d) { x := s.ev y }) := by
 have hnm : isMut own x = false := by simp [isMut, e]
 simp only [vcOps, U.force_eq, S.force_eq, eg, hnm, cond_false, ed]
 show VC C own x s.ev s.η (fun u => K (s.app (some d) u)) ↔ _
 simp only [VC, e]
 unfold mvVC
 have : ownNil own x.dst (s.ev y) = false := by
  unfold ownNil
  split
  ·rename_i e2
   rw [e2] at hy
   cases hy
  ·rfl
 rw [this]
 exact Iff.rfl
theorem purge_pin {v : SV} (h : isPin v = true) {m : Nat} (hm : m < 2000) : v.purge m = v := by
 unfold isPin at h
 split at h
 ·rename_i κ off
  have := Nat.le_of_ble_eq_true h
  show cond (Nat.beq κ m) SV.no (SV.ptr κ off) = SV.ptr κ off
  rw [beq_ite, if_neg (by omega)]
 ·cases h
theorem killL_ρ_pin {v : SV} (h : isPin v = true) : ∀ {l : List Nat} {s : S} {t : Nat}, (∀ m ∈ l, m < 2000) → s.ρ t = v → (s.killL l).ρ t = v
 | [], s, t, _, e => e
 | m :: l, s, t, hl, e => by
  refine killL_ρ_pin h (l := l) (s := s.kill m) (fun m hm => hl m (List.mem_cons_of_mem _ hm)) ?_
  show (s.ρ t).purge m = v
  rw [e, purge_pin h (hl m (List.mem_cons_self ..))]
theorem killL_put {v : SV} (h : isPin v = true) {d : Nat} : ∀ {l : List Nat} {s : S}, (∀ m ∈ l, m < 2000) → (s.app (some d) { x := v }).killL l = (s.killL l).app (some d) { x := v }
 | [], s, _ => rfl
 | m :: l, s, hl => by
  have h1 : (s.app (some d) { x := v }).kill m = (s.kill m).app (some d) { x := v } := by
   show S.mk (fun t => SV.purge m (cond (Nat.beq t d) v (s.ρ t))) _ = S.mk (fun t => cond (Nat.beq t d) v ((s.ρ t).purge m)) _
   congr 1
   funext t
   rw [beq_ite, beq_ite]
   split
   ·exact purge_pin h (hl m (List.mem_cons_self ..))
   ·rfl
  show ((s.app (some d) { x := v }).kill m).killL l = _
  rw [h1]
  exact killL_put h fun m hm => hl m (List.mem_cons_of_mem _ hm)
theorem pin_swapM {o x : Oper} {y : Operand} (ex : x.op = .move y) (hx : pinX x = true) (hm : isMut own o = true) (hg : o.guard = none) (h1 : o.apart ops x = true) (h2 : x.apart ops o = true) {dx : Nat} (edx : x.dst = some dx) {s : S} (hp : isPin (s.ev y) = true) {K : S → Prop}
  (h : vcOps C own [] ops [x] (vcOps C own [] ops [o] K) s) : vcOps C own [] ops [o] (fun s' => isPin (s'.ev y) = true ∧ vcOps C own [] ops [x] K s') s := by
 obtain ⟨a1, a2, a3⟩ := Oper.apart_spec h1
 obtain ⟨b1, b2, b3⟩ := Oper.apart_spec h2
 obtain ⟨gx, _⟩ := looks_isOne hx
 obtain ⟨v, hv⟩ : ∃ v, v = s.ev y := ⟨_, rfl⟩
 rw [one_move ex gx edx hp] at h
 rw [← hv] at hp h
 have mo : ∀ {s : S} {K : S → Prop}, vcOps C own [] ops [o] K s ↔ MVC C own o s K := by
  intro s K
  simp only [vcOps, S.force_eq, hg, hm, cond_true]
  exact Iff.rfl
 rw [mo] at h ⊢
 unfold MVC at h ⊢
 split at h
 ·rename_i c d ho ed
  obtain ⟨callee, args, tys⟩ := c
  simp only at h
  split at h
  ·rename_i f
   split at h
   ·rename_i f' caps ef
    have hne : d ≠ dx := fun e => a2 d ed (by rw [edx, e])
    have hev : ∀ z ∈ o.op.operands, (s.app (some dx) { x := v }).ev z = s.ev z := by
     intro z hz
     cases z with
     | tmp t =>
      have : t ≠ dx := fun e => b1 dx edx (e ▸ looks_op hz)
      show cond (Nat.beq t dx) v (s.ρ t) = s.ρ t
      rw [beq_ite, if_neg this]
     | _ => rfl
    have hf : (s.app (some dx) { x := v }).ev f = s.ev f := hev f (by simp [ho, Op.operands, Call.operands])
    have ha : args.toList.map (s.app (some dx) { x := v }).ev = args.toList.map s.ev := List.map_congr_left fun y hy => hev y (by simp [ho, Op.operands, Call.operands]; right; simpa using hy)
    rw [hf] at ef
    simp only
    rw [ef]
    simp only
    rw [SV.forceL_eq, ha] at h
    rw [SV.forceL_eq]
    have core : ∀ (I : List (Nat × AO)) (args0 : List SV) (O : List (Nat × AO)) (x' : SV) (g : Nat → Nat), PM C f' I args0 O x' → (∀ κ, (lookO I κ).live = true → κ < 2000 → g κ < 2000) → K (mAfter (s.app (some dx) { x := v }) g I O d x') →
      isPin ((mAfter s g I O d x').ev y) = true ∧ vcOps C own [] ops [x] K (mAfter s g I O d x') := by
     intro I args0 O x' g hpm hlt hk
     have hmv : ∀ m ∈ movers g I, m < 2000 := by
      intro m hm
      unfold movers at hm
      obtain ⟨z, hz, rfl⟩ := List.mem_map.1 hm
      rw [List.mem_filter, Nat.blt_eq] at hz
      refine hlt z.1 ?_ hz.2
      have hst := hpm.st
      simp only [okM, Bool.and_eq_true, List.all_eq_true] at hst
      have hall := hst.1.1.1.2
      have key : ∀ l : List (Nat × AO), (∀ y ∈ l, y.2.live = true) → (∃ z' ∈ l, z'.1 = z.1) → (lookO l z.1).live = true := by
       intro l
       induction l with
       | nil => rintro _ ⟨_, hm, _⟩; cases hm
       | cons w l ih =>
        intro hl he
        obtain ⟨κ, ow⟩ := w
        show (cond (Nat.beq z.1 κ) ow (lookO l z.1)).live = true
        rw [beq_ite]
        split
        ·exact hl _ (List.mem_cons_self ..)
        ·rename_i hne
         refine ih (fun y hy => hl y (List.mem_cons_of_mem _ hy)) ?_
         obtain ⟨z', hz', e⟩ := he
         rcases List.mem_cons.1 hz' with e2 | e2
         ·exact absurd (by rw [← e, e2]) hne
         ·exact ⟨z', e2, e⟩
      exact key I (fun y hy => (hall y hy).1.1) ⟨z, hz.1, rfl⟩
     have hy' : (mAfter s g I O d x').ev y = v := by
      cases y with
      | tmp t =>
       have htd : t ≠ d := fun e => a1 d ed (e ▸ looks_op (by simp [ex, Op.operands]))
       show cond (Nat.beq t d) (x'.ren g) ((s.killL (movers g I)).ρ t) = v
       rw [beq_ite, if_neg htd]
       exact killL_ρ_pin hp hmv hv.symm
      | _ => exact hv.symm
     refine ⟨by rw [hy']; exact hp, ?_⟩
     rw [one_move ex gx edx (by rw [hy']; exact hp), hy']
     have e : (mAfter s g I O d x').app (some dx) { x := v } = mAfter (s.app (some dx) { x := v }) g I O d x' := by
      unfold mAfter
      rw [killL_put hp hmv]
      show S.mk (fun t => cond (Nat.beq t dx) v (cond (Nat.beq t d) (x'.ren g) ((s.killL (movers g I)).ρ t))) _ = S.mk (fun t => cond (Nat.beq t d) (x'.ren g) (cond (Nat.beq t dx) v ((s.killL (movers g I)).ρ t))) _
      rw [put_comm (fun e => hne e.symm)]
     rw [e]
     exact hk
    cases h7 : own (d + 700000) with
    | true =>
     rw [h7, cond_true] at h
     rw [cond_true]
     obtain ⟨s1, ⟨I, args0, O, x', g, q1, q2, q3, q4, q5, q6, q7, q8, q9⟩, hk⟩ := h
     rw [S.force_eq, q7] at hk
     refine ⟨_, ⟨I, args0, O, x', g, q1, q2, q3, q4, q5, q6, rfl, q8, q9⟩, ?_⟩
     rw [S.force_eq]
     exact core I args0 O x' g q1 q6 hk
    | false =>
     rw [h7, cond_false] at h
     rw [cond_false]
     obtain ⟨s1, ⟨I, args0, O, x', g, q1, q2, q3, q4, q5, q6, q7⟩, hk⟩ := h
     rw [S.force_eq, q7] at hk
     refine ⟨_, ⟨I, args0, O, x', g, q1, q2, q3, q4, q5, q6, rfl⟩, ?_⟩
     rw [S.force_eq]
     exact core I args0 O x' g q1 q6 hk
   ·exact h.elim
  ·exact h.elim
 ·exact h.elim
theorem pin_swapL {o x : Oper} {t : Nat} {y : Operand} (ex : x.op = .load t y) (hx : pinX x = true) (hm : mutQ own o = true) (h9 : ∀ d, o.dst = some d → own (d + 900000) = true) (h1 : o.apart ops x = true) (h2 : x.apart ops o = true) {s : S} (hw : WF s) (hp : isLow (s.ev y) = true) {K : S → Prop}
  (h : vcOps C own [] ops [x] (vcOps C own [] ops [o] K) s) : vcOps C own [] ops [o] (fun s' => isLow (s'.ev y) = true ∧ vcOps C own [] ops [x] K s') s := by
 obtain ⟨a1, a2, a3⟩ := Oper.apart_spec h1
 obtain ⟨b1, b2, b3⟩ := Oper.apart_spec h2
 obtain ⟨gx, _⟩ := looks_isOne hx
 have hnm : isMut own x = false := by simp [isMut, ex]
 have lo : ∀ {s : S} {K : S → Prop}, vcOps C own [] ops [x] K s ↔ VC C own x s.ev s.η fun u => K (s.app x.dst u) := by
  intro s K
  simp only [vcOps, U.force_eq, S.force_eq, gx, hnm, cond_false]
  exact Iff.rfl
 rw [lo] at h
 have hld : ∀ {k : U → Prop}, VC C own x s.ev s.η k → ∃ v : SV, k { x := v } ∧ ∀ (ev' : Operand → SV) (η' : Nat → AO) (k' : U → Prop), ev' y = s.ev y → (∀ κ, κ < 1000 → η' κ = s.η κ) → k' { x := v } → VC C own x ev' η' k' := by
  intro k h
  simp only [VC, ex] at h
  split at h
  ·exact h.elim
  ·rename_i ti et
   split at h
   ·rename_i κ off ey
    have hκ : κ < 1000 := by
     rw [ey] at hp
     have : Nat.blt κ 1000 = true := hp
     rwa [Nat.blt_eq] at this
    split at h
    ·rename_i ow t' z eη
     obtain ⟨w, hz, hz'⟩ := ldVC_free h
     refine ⟨_, hz, fun ev' η' k' he hη hk => ?_⟩
     simp only [VC, ex, et, he, ey, hη κ hκ, eη]
     exact hz' _ hk
    ·exact h.elim
   ·rename_i z ey; rw [ey] at hp; cases hp
   ·rename_i z f ey; rw [ey] at hp; cases hp
   ·rename_i κ sz i ey; rw [ey] at hp; cases hp
   ·exact h.elim
 obtain ⟨v, hk, hv⟩ := hld h
 obtain ⟨d0, ed0, _, _, h7⟩ := mutQ_spec hm
 rw [one_mut hm] at hk
 obtain ⟨d, y', ed, E, hK, hE, hm'⟩ := mut_spec (ops := ops) hm hk
 have hyd : ∀ u, y = .tmp u → u ≠ d := fun u e1 e2 => a1 d ed (e2 ▸ looks_op (by simp [ex, Op.operands, e1]))
 have happη : ∀ κ, (s.app x.dst { x := v }).η κ = s.η κ := by
  intro κ
  cases x.dst <;> rfl
 have hev : (S.mk (fun t => cond (Nat.beq t d) y' (s.ρ t)) E).ev y = s.ev y := by
  cases y with
  | tmp u =>
   show cond (Nat.beq u d) y' (s.ρ u) = s.ρ u
   rw [beq_ite, if_neg (hyd u rfl)]
  | _ => rfl
 rw [one_mut hm]
 refine hm' _ _ (fun u hu => ?_) ?_ ⟨by rw [hev]; exact hp, ?_⟩
 ·cases edx : x.dst with
  | none => rfl
  | some dx =>
   have : u ≠ dx := fun e => b1 dx edx (e ▸ hu)
   show s.ρ u = cond (Nat.beq u dx) v (s.ρ u)
   rw [beq_ite, if_neg this]
 ·cases x.dst <;> rfl
 ·rw [lo]
  refine hv _ _ _ hev (fun κ hκ => ?_) ?_
  ·show E κ = s.η κ
   rw [hE (h9 d ed) κ hκ, happη]
  ·cases edx : x.dst with
   | none => rw [edx] at hK; exact hK
   | some dx =>
    rw [edx] at hK
    have hne : d ≠ dx := fun e => a2 d ed (by rw [edx, e])
    have e : (⟨fun t => cond (Nat.beq t d) y' (s.ρ t), E⟩ : S).app (some dx) { x := v } = (⟨fun t => cond (Nat.beq t d) y' ((s.app (some dx) { x := v }).ρ t), E⟩ : S) := by
     show S.mk (fun t => cond (Nat.beq t dx) v (cond (Nat.beq t d) y' (s.ρ t))) E = S.mk (fun t => cond (Nat.beq t d) y' (cond (Nat.beq t dx) v (s.ρ t))) E
     rw [put_comm hne]
    rw [e]
    exact hK
theorem pin_swap {o x : Oper} (hx : pinX x = true) (h1 : o.apart ops x = true) (h2 : x.apart ops o = true) (ho : freeO own o = true ∨ isMut own o = true ∧ o.guard = none ∧ lowQ own x o = true) {s : S} (hw : WF s) (hp : pinOk x s.ev) {K : S → Prop}
  (hd : ∃ d, x.dst = some d) (h : vcOps C own [] ops [x] (vcOps C own [] ops [o] K) s) : vcOps C own [] ops [o] (fun s' => pinOk x s'.ev ∧ vcOps C own [] ops [x] K s') s := by
 rcases ho with ho | ⟨hm, hg, hq⟩
 ·exact pin_swapF hx ho h1 h2 hw hp h
 ·obtain ⟨gx, ⟨y, e⟩ | ⟨t, y, e⟩⟩ := looks_isOne hx
  ·obtain ⟨d, ed⟩ := hd
   have := pin_swapM e hx hm hg h1 h2 ed (by simpa [pinOk, e] using hp) h
   simpa only [pinOk, e] using this
  ·have hq' : ∃ d, o.dst = some d ∧ own (d + 700000) = true ∧ own (d + 900000) = true := by
    unfold lowQ at hq
    rw [e] at hq
    simp only at hq
    split at hq
    ·rename_i d ed
     rw [Bool.and_eq_true] at hq
     exact ⟨d, ed, hq.1, hq.2⟩
    ·cases hq
   obtain ⟨d, ed, h7, h9⟩ := hq'
   have hmq : mutQ own o = true := by
    unfold mutQ
    rw [ed, hg]
    simp [hm, h7]
   have := pin_swapL e hx hmq (fun d' e' => by rw [ed] at e'; cases e'; exact h9) h1 h2 hw (by simpa [pinOk, e] using hp) h
   simpa only [pinOk, e] using this
theorem stQ_spec {o : Oper} (h : stQ o = true) : (∃ t a x, o.op = .store t a x) ∧ o.dst = none ∧ o.guard = none := by
 unfold stQ at h
 split at h
 ·rename_i t a x e1 e2 e3; exact ⟨⟨t, a, x, e1⟩, e2, e3⟩
 ·cases h
theorem one_store {o : Oper} (hs : stQ o = true) {s : S} {K : S → Prop} : vcOps C own [] ops [o] K s ↔ VC C own o s.ev s.η fun u => K (s.app none u) := by
 obtain ⟨⟨t, a, x, e⟩, ed, eg⟩ := stQ_spec hs
 have hnm : isMut own o = false := by simp [isMut, e]
 simp only [vcOps, U.force_eq, S.force_eq, eg, hnm, cond_false, ed]
 exact Iff.rfl
theorem store_any {o : Oper} (hs : stQ o = true) {ev : Operand → SV} {η : Nat → AO} {k : U → Prop} (h : VC C own o ev η k) :
  ∃ (κ : Nat) (o' : AO), k { x := .no, st := some (κ, o') } ∧ ∀ (ev' : Operand → SV) (k' : U → Prop), (∀ y ∈ o.op.operands, ev' y = ev y) → k' { x := .no, st := some (κ, o') } → VC C own o ev' η k' := by
 obtain ⟨⟨t, a, x, e⟩, ed, eg⟩ := stQ_spec hs
 have ha : a ∈ o.op.operands := by simp [e, Op.operands]
 have hx : x ∈ o.op.operands := by simp [e, Op.operands]
 simp only [VC, e, ed] at h
 split at h
 ·rename_i ti e0 et
  split at h
  ·rename_i κ off ea
   split at h
   ·rename_i t' y eη
    obtain ⟨h1, h⟩ := h
    cases eb : (Nat.beq t t' && Nat.beq off 0) with
    | true =>
     rw [eb] at h
     refine ⟨_, _, h, fun ev' k' he hk => ?_⟩
     simp only [VC, e, ed, et, he a ha, he x hx, ea, eη]
     refine ⟨h1, ?_⟩
     rw [eb]
     exact hk
    | false =>
     rw [eb] at h
     simp only [cond_false] at h
     split at h
     ·rename_i cs xs e1 e2
      obtain ⟨h2, h3, h⟩ := h
      refine ⟨_, _, h, fun ev' k' he hk => ?_⟩
      simp only [VC, e, ed, et, he a ha, he x hx, ea, eη]
      refine ⟨h1, ?_⟩
      rw [eb]
      simp only [cond_false, e1, e2]
      exact ⟨h2, h3, hk⟩
     ·exact h.elim
   ·exact h.elim
  ·rename_i κ sz i ea
   split at h
   ·rename_i t' sz' L y eη ey
    cases eb : Nat.beq sz sz' with
    | true =>
     rw [eb] at h
     obtain ⟨h1, h2, h3, h4, h⟩ := h
     refine ⟨_, _, h, fun ev' k' he hk => ?_⟩
     simp only [VC, e, ed, et, he a ha, he x hx, ea, eη, ey]
     rw [eb]
     exact ⟨h1, h2, h3, h4, hk⟩
    | false =>
     rw [eb] at h
     obtain ⟨h1, j, f, cs, h2, h3, h4, h5, h6, h⟩ := h
     refine ⟨_, _, h, fun ev' k' he hk => ?_⟩
     simp only [VC, e, ed, et, he a ha, he x hx, ea, eη, ey]
     rw [eb]
     exact ⟨h1, j, f, cs, h2, h3, h4, h5, h6, hk⟩
   ·exact h.elim
  ·exact h.elim
 ·exact h.elim
theorem vc_swap_tp {o x : Oper} (hs : stQ o = true) (hp : pureO own x = true) (h1 : o.apart ops x = true) (h2 : x.apart ops o = true) {s : S} {K : S → Prop}
  (h : vcOps C own [] ops [o] (vcOps C own [] ops [x] K) s) : vcOps C own [] ops [x] (vcOps C own [] ops [o] K) s := by
 obtain ⟨b1, b2, b3⟩ := Oper.apart_spec h2
 obtain ⟨dx, ex, _, _⟩ := pureO_spec hp
 rw [one_store hs] at h
 obtain ⟨κ, o', hx, hst⟩ := store_any hs h
 rw [one_pure hp ex] at hx
 obtain ⟨v, hk, hv⟩ := pure_any hp hx
 rw [one_pure hp ex]
 refine hv _ _ _ (fun z hz => by cases z <;> rfl) ?_
 rw [one_store hs]
 refine hst _ _ (fun z hz => ?_) hk
 cases z with
 | tmp t =>
  have : t ≠ dx := fun e => b1 dx ex (e ▸ looks_op hz)
  show cond (Nat.beq t dx) v (s.ρ t) = s.ρ t
  rw [beq_ite, if_neg this]
 | _ => rfl
theorem vc_swap_pt {o x : Oper} (hs : stQ o = true) (hp : pureO own x = true) (h1 : o.apart ops x = true) (h2 : x.apart ops o = true) {s : S} {K : S → Prop}
  (h : vcOps C own [] ops [x] (vcOps C own [] ops [o] K) s) : vcOps C own [] ops [o] (vcOps C own [] ops [x] K) s := by
 obtain ⟨b1, b2, b3⟩ := Oper.apart_spec h2
 obtain ⟨dx, ex, _, _⟩ := pureO_spec hp
 rw [one_pure hp ex] at h
 obtain ⟨v, hk, hv⟩ := pure_any hp h
 rw [one_store hs] at hk
 obtain ⟨κ, o', hx, hst⟩ := store_any hs hk
 rw [one_store hs]
 refine hst s.ev _ (fun z hz => ?_) ?_
 ·cases z with
  | tmp t =>
   have : t ≠ dx := fun e => b1 dx ex (e ▸ looks_op hz)
   show s.ρ t = cond (Nat.beq t dx) v (s.ρ t)
   rw [beq_ite, if_neg this]
  | _ => rfl
 ·rw [one_pure hp ex]
  exact hv _ _ _ (fun z hz => by cases z <;> rfl) hx
theorem emptyP {P : List Nat} (h : P.isEmpty = true) : P = [] := by cases P with | nil => rfl | cons => cases h
theorem vc_sw {P : List Nat} {o x : Oper} (hs : swapB own P ops o x = true) {s : S} (hw : WF s) (hI : Inv P s) {K : S → Prop}
  (h : vcOps C own P ops [o] (vcOps C own P ops [x] K) s) : vcOps C own P ops [x] (vcOps C own P ops [o] K) s := by
 unfold swapB at hs
 simp only [Bool.and_eq_true] at hs
 obtain ⟨h1, h2, hs⟩ := hs
 rw [Bool.or_eq_true] at hs
 rcases hs with hs | hs
 ·rw [Bool.and_eq_true] at hs
  exact vc_swap hs.1 hs.2 h1 h2 hw h
 rw [Bool.or_eq_true] at hs
 rcases hs with hs | hs
 ·simp only [Bool.and_eq_true, Bool.or_eq_true] at hs
  obtain ⟨h0, hs⟩ := hs
  obtain rfl := emptyP h0
  rcases hs with ⟨q1 | q1, q2⟩ | ⟨q1, q2 | q2⟩
  ·exact vc_swap_mp q1 q2 h1 h2 h
  ·exact vc_swap_tp q1 q2 h1 h2 h
  ·exact vc_swap_pm q2 q1 h2 h1 h
  ·exact vc_swap_pt q2 q1 h2 h1 h
 ·split at hs
  ·rename_i p e
   rw [Bool.and_eq_true] at hs
   exact vc_swap_sx e hs.1 hs.2 h1 h2 hI h
  ·split at hs
   ·rename_i p e
    rw [Bool.and_eq_true] at hs
    exact vc_swap_xs e hs.1 hs.2 h2 h1 hI h
   ·split at hs
    ·rename_i p e
     simp only [Bool.and_eq_true, Bool.not_eq_true', List.contains_eq_mem, decide_eq_false_iff_not] at hs
     exact vc_swap_ax e hs.1 hs.2.1 hs.2.2 h1 h2 hw hI h
    ·split at hs
     ·rename_i p e
      simp only [Bool.and_eq_true, Bool.not_eq_true', List.contains_eq_mem, decide_eq_false_iff_not] at hs
      exact vc_swap_xa e hs.1 hs.2.1 hs.2.2 h2 h1 hw hI h
     ·cases hs
theorem stO_free {P : List Nat} {x : Oper} (h : freeO own x = true) : stO P x = none := by
 unfold stO
 split
 ·rename_i t q y e ed
  simp [freeO, freeO1, freeO0, e] at h
 ·rfl
theorem apO_free {P : List Nat} {x : Oper} (h : freeO own x = true) : apO own P x = none := by
 unfold apO
 split
 ·rename_i c d e ed
  split
  ·rename_i p y ec ea
   obtain ⟨callee, args, tys⟩ := c
   simp only at ec
   subst ec
   simp only at ea
   simp [freeO, freeO1, freeO0, e, ea, isNilC] at h
  ·rfl
 ·rfl
theorem swapB_symm {P : List Nat} {o x : Oper} (h : swapB own P ops o x = true) : swapB own P ops x o = true := by
 unfold swapB at h ⊢
 simp only [Bool.and_eq_true] at h ⊢
 obtain ⟨h1, h2, h3⟩ := h
 refine ⟨h2, h1, ?_⟩
 rw [Bool.or_eq_true] at h3 ⊢
 rcases h3 with h3 | h3
 ·exact .inl (by rw [Bool.and_comm]; exact h3)
 rw [Bool.or_eq_true] at h3 ⊢
 rcases h3 with h3 | h3
 ·refine .inr (.inl ?_)
  simp only [Bool.and_eq_true, Bool.or_eq_true] at h3 ⊢
  rcases h3 with ⟨q0, ⟨q1, q2⟩ | ⟨q1, q2⟩⟩
  ·exact ⟨q0, .inr ⟨q2, q1⟩⟩
  ·exact ⟨q0, .inl ⟨q2, q1⟩⟩
 ·refine .inr (.inr ?_)
  cases e1 : stO P o with
  | some p =>
   rw [e1] at h3
   simp only at h3
   have hfx : freeO own x = true := by rw [Bool.and_eq_true] at h3; exact h3.1
   rw [stO_free hfx]
   exact h3
  | none =>
   rw [e1] at h3
   simp only at h3
   cases e2 : stO P x with
   | some p => rw [e2] at h3; exact h3
   | none =>
    rw [e2] at h3
    simp only at h3 ⊢
    cases e3 : apO own P o with
    | some p =>
     rw [e3] at h3
     simp only at h3
     have hfx : freeO own x = true := by rw [Bool.and_eq_true] at h3; exact h3.1
     rw [apO_free hfx]
     exact h3
    | none =>
     rw [e3] at h3
     simp only at h3
     cases e4 : apO own P x with
     | some p => rw [e4] at h3; exact h3
     | none => rw [e4] at h3; cases h3
theorem one_s {P : List Nat} {o x : Oper} (hs : swapB own P ops o x = true) {s : S} (hI : Inv P s) {K : S → Prop} (h : vcOps C own P ops [o] K s) :
  ∃ s1, K s1 ∧ Inv P s1 ∧ ∀ K' : S → Prop, K' s1 → vcOps C own P ops [o] K' s := by
 have hfree : freeO own o = true → ∃ s1, K s1 ∧ Inv P s1 ∧ ∀ K' : S → Prop, K' s1 → vcOps C own P ops [o] K' s := by
  intro hf
  obtain ⟨u, hK, _, _, _, hI', u4⟩ := step1_free hf h
  exact ⟨_, hK, hI' hI, u4 s (fun _ _ => rfl) (fun _ _ => rfl) (fun _ _ => rfl)⟩
 unfold swapB at hs
 simp only [Bool.and_eq_true] at hs
 obtain ⟨h1, h2, hs⟩ := hs
 rw [Bool.or_eq_true] at hs
 rcases hs with hs | hs
 ·rw [Bool.and_eq_true] at hs
  exact hfree hs.1
 rw [Bool.or_eq_true] at hs
 rcases hs with hs | hs
 ·simp only [Bool.and_eq_true, Bool.or_eq_true] at hs
  obtain ⟨h0, hs⟩ := hs
  obtain rfl := emptyP h0
  rcases hs with ⟨q1 | q1, q2⟩ | ⟨q1, q2⟩
  rotate_left
  ·rw [one_store q1] at h
   obtain ⟨κ, o', hx, hst⟩ := store_any q1 h
   exact ⟨_, hx, Inv.nil _, fun K' hk => by rw [one_store q1]; exact hst _ _ (fun _ _ => rfl) hk⟩
  rotate_left
  ·rw [one_mut q1] at h
   obtain ⟨d, y, ed, E, hx, _, hm'⟩ := mut_spec (ops := ops) q1 h
   exact ⟨_, hx, Inv.nil _, fun K' hk => by rw [one_mut q1]; exact hm' s K' (fun _ _ => rfl) rfl hk⟩
  ·obtain ⟨dx, ex, _, _⟩ := pureO_spec q1
   rw [one_pure q1 ex] at h
   obtain ⟨v, hk, hv⟩ := pure_any q1 h
   exact ⟨_, hk, Inv.nil _, fun K' hk => by rw [one_pure q1 ex]; exact hv _ _ _ (fun _ _ => rfl) hk⟩
 ·split at hs
  ·rename_i p e
   obtain ⟨hd, u, hK, _, _, _, hI', u4⟩ := step1_store e hI h
   exact ⟨_, hK, hI', u4 s (fun _ _ => rfl) rfl⟩
  ·split at hs
   ·rw [Bool.and_eq_true] at hs
    exact hfree hs.1
   ·split at hs
    ·rename_i p e
     obtain ⟨d, ed, _, u, hK, _, hI', u4⟩ := step1_ap e hI h
     exact ⟨_, hK, hI', u4 s (fun _ _ => rfl) rfl rfl⟩
    ·split at hs
     ·rw [Bool.and_eq_true] at hs
      exact hfree hs.1
     ·cases hs
theorem mask_spec (acc : List Nat) (i : Nat) : ∀ (l : List Edge) (m : Nat), (l.foldl (fun m e => cond (Region.binds .any e) (m ||| 2 ^ e.on ||| acc.getD e.on 0) m) m).testBit i = true →
  m.testBit i = true ∨ ∃ e ∈ l, Region.binds .any e = true ∧ (e.on = i ∨ (acc.getD e.on 0).testBit i = true)
 | [], m, h => .inl h
 | e :: l, m, h => by
  simp only [List.foldl_cons] at h
  rcases mask_spec acc i l _ h with h1 | ⟨e', h1, h2⟩
  ·cases hb : Region.binds .any e with
   | false => rw [hb] at h1; exact .inl h1
   | true =>
    rw [hb] at h1
    simp only [cond_true, Nat.testBit_or, Bool.or_eq_true] at h1
    rcases h1 with (h1 | h1) | h1
    ·exact .inl h1
    ·rw [Nat.testBit_two_pow] at h1
     exact .inr ⟨e, List.mem_cons_self .., hb, .inl (by simpa using h1)⟩
    ·exact .inr ⟨e, List.mem_cons_self .., hb, .inr h1⟩
  ·exact .inr ⟨e', List.mem_cons_of_mem _ h1, h2⟩
theorem masks_spec {D : Nat → Prop} {L : List Oper} (hD : ∀ i o, L[i]? = some o → D i → ∀ e ∈ o.after.toList, Region.binds .any e = true → D e.on) :
  ∀ (l : List Oper) (acc : List Nat), (∀ j, l[j]? = L[acc.length + j]?) →
   (∀ k i, (∀ o, L[k]? = some o → ∀ e ∈ o.after.toList, Region.binds .any e = true → D e.on) → (acc.getD k 0).testBit i = true → D i) →
   ∀ k i, (∀ o, L[k]? = some o → ∀ e ∈ o.after.toList, Region.binds .any e = true → D e.on) → ((masks l acc).getD k 0).testBit i = true → D i
 | [], acc, _, hacc => hacc
 | o :: l, acc, hl, hacc => by
  simp only [masks]
  refine masks_spec hD l _ (fun j => ?_) fun k i hk hb => ?_
  ·have := hl (j + 1)
   rw [List.length_append, List.length_singleton, show acc.length + 1 + j = acc.length + (j + 1) by omega, ← this]
   rfl
  ·rw [List.getD_eq_getElem?_getD] at hb
   rcases Nat.lt_trichotomy k acc.length with hlt | heq | hgt
   ·rw [List.getElem?_append_left hlt, ← List.getD_eq_getElem?_getD] at hb
    exact hacc k i hk hb
   ·subst heq
    have ho : L[acc.length]? = some o := by simpa using (hl 0).symm
    simp only [List.getElem?_append_right (Nat.le_refl _), Nat.sub_self, List.getElem?_cons_zero, Option.getD_some] at hb
    rcases mask_spec acc i _ 0 hb with h1 | ⟨e, h1, h2, h3⟩
    ·simp at h1
    ·have hde := hk o ho e h1 h2
     rcases h3 with rfl | h3
     ·exact hde
     ·exact hacc e.on i (fun o' ho' e' he' hb' => hD e.on o' ho' hde e' he' hb') h3
   ·rw [List.getElem?_eq_none (by simp; omega)] at hb
    simp at hb
theorem vcOps_cons {P : List Nat} {o : Oper} {rest : List Oper} {K : S → Prop} {s : S} : vcOps C own P ops (o :: rest) K s = vcOps C own P ops [o] (vcOps C own P ops rest K) s := by
 simp only [vcOps, U.force_eq, S.force_eq]
section
variable {n : Nat} {F : Fm} {ok0 : Nat → Prop} {w0 : World}
theorem wp_pure {P : Program} {o : Oper} {a : Act} {w : World} {p : Prop} (h : o.wp P a w (fun _ _ => p) (fun _ _ _ => p)) : p := by
 unfold Oper.wp at h
 generalize (execOp a.eval o).run P w = r at h
 cases r with
 | ok m w' =>
  cases m <;> simp only [Oper.upon] at h
  case value => exact h
  case skip => exact h
  case defer => exact h
  case enter f args =>
   obtain ⟨e, w'', fr, hr, _⟩ := h []
   cases e with
   | returned v => exact hr
   | panicked c => exact hr
   | outgrown => obtain ⟨_, _, hr⟩ := hr; exact hr
  case row r args =>
   obtain ⟨v, w'', hr, _⟩ := h (Frame.ofRow P r args .normal) []
   exact hr
 | halt x w' => cases x <;> simp only [Oper.upon] at h; exact h
theorem wp_Q {P : Program} {o : Oper} {a : Act} {w : World} {K : Act → World → Prop} {Q Q' : Exit → Act → World → Prop} (h1 : ∀ c a w, Q' (.panic c) a w → Q (.panic c) a w) (h2 : LetsOut Q' → LetsOut Q) (h : o.wp P a w K Q') : o.wp P a w K Q := by
 unfold Oper.wp at h ⊢
 generalize (execOp a.eval o).run P w = r at h ⊢
 cases r with
 | ok m w' =>
  cases m <;> simp only [Oper.upon] at h ⊢
  case value => exact h
  case skip => exact h
  case defer => exact h
  case enter f args =>
   refine Calls.mono h fun e w'' he => ?_
   cases e with
   | returned v => exact he
   | panicked c => exact h1 _ _ _ he
   | outgrown => exact h2 he
  case row r args => exact h
 | halt x w' => cases x <;> simp only [Oper.upon] at h ⊢; exact h1 _ _ _ h
theorem op_exists (hC : CxOk C) {P : List Nat} {o : Oper} (hd : ∀ d, o.dst = some d → d < n) {K : S → Prop} {s : S} {a : Act} {w : World} (hvc : vcOps C own P ops [o] K s) (hI : Inv P s) (h : St C n F ok0 w0 s a w) : ∃ s1 a1 w1, K s1 ∧ St C n F ok0 w0 s1 a1 w1 := by
 have := ops_sound (Q := fun _ _ _ => ∃ s1 a1 w1, K s1 ∧ St C n F ok0 w0 s1 a1 w1) hC (ops := ops) [o] K s (by intro o' ho' d hd'; simp at ho'; subst ho'; exact hd d hd') hvc a w hI h fun s1 a1 w1 hk _ hs => ⟨s1, a1, w1, hk, hs⟩
 unfold wpList at this
 split at this
 ·rcases this with h1 | ⟨_, _, _, h1⟩
  ·exact wp_pure h1
  ·exact h1
 ·exact this
theorem vcOps_front (hC : CxOk C) {P : List Nat} {x : Oper} {post : List Oper} {K : S → Prop} : ∀ (pre : List Oper), (∀ o ∈ pre, swapB own P ops o x = true) → (∀ o ∈ pre, ∀ d, o.dst = some d → d < n) →
  ∀ (s : S) (a : Act) (w : World), Inv P s → St C n F ok0 w0 s a w → vcOps C own P ops (pre ++ x :: post) K s → vcOps C own P ops [x] (vcOps C own P ops (pre ++ post) K) s
 | [], _, _, s, a, w, _, _, h => by rw [List.nil_append, vcOps_cons] at h; exact h
 | o :: pre, hfree, hds, s, a, w, hI, hst, h => by
  rw [List.cons_append, vcOps_cons] at h
  have hs := hfree o (List.mem_cons_self ..)
  obtain ⟨s2, hK, hI', hself⟩ := one_s hs hI h
  obtain ⟨s1, a1, w1, rfl, hst1⟩ := op_exists hC (hds o (List.mem_cons_self ..)) (hself (fun s1 => s1 = s2) rfl) hI hst
  have ih := vcOps_front hC pre (fun o ho => hfree o (List.mem_cons_of_mem _ ho)) (fun o ho => hds o (List.mem_cons_of_mem _ ho)) _ a1 w1 hI' hst1 hK
  have hwf : WF s := by obtain ⟨ok, β, h⟩ := hst; exact h.wf
  have := vc_sw hs hwf hI (hself _ ih)
  rw [List.cons_append]
  have e : vcOps C own P ops (o :: (pre ++ post)) K = vcOps C own P ops [o] (vcOps C own P ops (pre ++ post) K) := by funext s; exact vcOps_cons
  rw [e]
  exact this
def rem (ops : Array Oper) (listed : Array Bool) : List (Oper × Nat) := ops.toList.zipIdx.filter fun x => !listed.getD x.2 true
theorem mem_rem {listed : Array Bool} {o : Oper} {i : Nat} : (o, i) ∈ rem ops listed ↔ ops[i]? = some o ∧ listed.getD i true = false := by
 unfold rem
 rw [List.mem_filter, List.mk_mem_zipIdx_iff_getElem?]
 simp
theorem rem_split {listed : Array Bool} {x : Oper} {j : Nat} (hj : ops[j]? = some x) (hu : listed.getD j true = false) :
  ∃ pre post, rem ops listed = pre ++ (x, j) :: post ∧ rem ops (listed.setIfInBounds j true) = pre ++ post ∧ (∀ y ∈ pre, y.2 < j) := by
 have hlt : j < ops.toList.zipIdx.length := by simpa using (Array.getElem?_eq_some_iff.1 hj).1
 have hget : ops.toList.zipIdx[j] = (x, j) := by
  have h1 := (Array.getElem?_eq_some_iff.1 hj)
  obtain ⟨h1, h2⟩ := h1
  simp [← h2]
 have hs : ops.toList.zipIdx = ops.toList.zipIdx.take j ++ (x, j) :: ops.toList.zipIdx.drop (j + 1) := by
  rw [← hget, ← List.drop_eq_getElem_cons hlt, List.take_append_drop]
 have h1 : ∀ y ∈ ops.toList.zipIdx.take j, y.2 < j := by
  intro y hy
  obtain ⟨i, hi, rfl⟩ := List.mem_iff_getElem.1 hy
  simp at hi
  simp
  omega
 have h2 : ∀ y ∈ ops.toList.zipIdx.drop (j + 1), j < y.2 := by
  intro y hy
  obtain ⟨i, hi, rfl⟩ := List.mem_iff_getElem.1 hy
  simp
  omega
 refine ⟨(ops.toList.zipIdx.take j).filter fun x => !listed.getD x.2 true, (ops.toList.zipIdx.drop (j + 1)).filter fun x => !listed.getD x.2 true, ?_, ?_, fun y hy => h1 y (List.mem_filter.1 hy).1⟩
 ·unfold rem
  conv => lhs; rw [hs]
  rw [List.filter_append, List.filter_cons_of_pos (by simpa using hu)]
 ·unfold rem
  conv => lhs; rw [hs]
  have hjl : j < listed.size := by
   rcases Nat.lt_or_ge j listed.size with h | h
   ·exact h
   ·simp [Array.getElem?_eq_none h] at hu
  rw [List.filter_append, List.filter_cons_of_neg (by simp [hjl])]
  congr 1
  ·refine List.filter_congr fun y hy => ?_
   rw [getD_set_ne true (by have := h1 y hy; omega)]
  ·refine List.filter_congr fun y hy => ?_
   rw [getD_set_ne true (by have := h2 y hy; omega)]
theorem draw_go (hC : CxOk C) {P : List Nat} (hds : ∀ o ∈ ops.toList, ∀ d, o.dst = some d → d < n) (hi : indep own P ops = true) {Kp : S → Prop} {Q : Exit → Act → World → Prop} (hQ : ∀ s a w, Kp s → St C n F ok0 w0 s a w → Q .normal a w) :
  ∀ (fuel : Nat) (listed : Array Bool) (s : S) (a : Act) (w : World), listed.size = ops.size → (∀ i o, ops[i]? = some o → listed.getD i true = true → ∀ e ∈ o.after.toList, Region.binds .any e = true → listed.getD e.on true = true) →
   (rem ops listed).length ≤ fuel → Inv P s → St C n F ok0 w0 s a w → vcOps C own P ops ((rem ops listed).map (·.1)) Kp s → wpAny C.P .any ops Q fuel listed a w := by
 have hedge : ∀ i o, ops[i]? = some o → ∀ e ∈ o.after.toList, Region.binds .any e = true → e.on < i := by
  intro i o ho e he hb
  unfold indep at hi
  rw [List.all_eq_true] at hi
  have := hi (o, i) (by rw [List.mk_mem_zipIdx_iff_getElem?]; simpa using ho)
  simp only [Bool.and_eq_true, List.all_eq_true] at this
  have := this.1.1 e he
  simpa [hb, Nat.blt_eq] using this
 have hpair : ∀ i o j x, ops[i]? = some o → ops[j]? = some x → j < i → ((masks ops.toList []).getD i 0).testBit j = true ∨ swapB own P ops o x = true := by
  intro i o j x ho hx hji
  unfold indep at hi
  rw [List.all_eq_true] at hi
  have := hi (o, i) (by rw [List.mk_mem_zipIdx_iff_getElem?]; simpa using ho)
  simp only [Bool.and_eq_true, List.all_eq_true] at this
  have := this.2 (x, j) (by rw [List.mk_mem_zipIdx_iff_getElem?]; simpa using hx)
  simp only [Bool.or_eq_true, Bool.not_eq_true'] at this
  rcases this with (h | h) | h
  ·exfalso
   have : Nat.blt j i = true := by rw [Nat.blt_eq]; exact hji
   rw [this] at h
   cases h
  ·exact .inl h
  ·exact .inr h
 have hready0 : ∀ (listed : Array Bool), listed.size = ops.size → rem ops listed ≠ [] → Region.ready .any ops listed ≠ [] := by
  intro listed hsz hne
  have key : ∀ m i, i ≤ m → ∀ o, ops[i]? = some o → listed.getD i true = false → Region.ready .any ops listed ≠ [] := by
   intro m
   induction m with
   | zero =>
    intro i him o ho hu
    have : i ∈ Region.ready .any ops listed := by
     rw [mem_ready]
     refine ⟨hu, o, ho, fun e he hb => ?_⟩
     have := hedge i o ho e (by simpa using he) hb
     omega
    intro h0
    rw [h0] at this
    cases this
   | succ m ih =>
    intro i him o ho hu
    by_cases hex : ∃ e ∈ o.after.toList, Region.binds .any e = true ∧ listed.getD e.on true = false
    ·obtain ⟨e, he, hb, hu'⟩ := hex
     have hlt := hedge i o ho e he hb
     have hsz' : e.on < ops.size := by have := (Array.getElem?_eq_some_iff.1 ho).1; omega
     exact ih e.on (by omega) ops[e.on] (by simp [hsz']) hu'
    ·have : i ∈ Region.ready .any ops listed := by
      rw [mem_ready]
      refine ⟨hu, o, ho, fun e he hb => ?_⟩
      have h1 : listed.getD e.on true = true := by
       cases h : listed.getD e.on true with
       | true => rfl
       | false => exact absurd ⟨e, by simpa using he, hb, h⟩ hex
      have hlt := hedge i o ho e (by simpa using he) hb
      have hsz' : e.on < listed.size := by have := (Array.getElem?_eq_some_iff.1 ho).1; omega
      simpa [hsz'] using h1
     intro h0
     rw [h0] at this
     cases this
  obtain ⟨⟨o, i⟩, ho⟩ := List.exists_mem_of_ne_nil _ hne
  obtain ⟨h1, h2⟩ := mem_rem.1 ho
  exact key i i (Nat.le_refl _) o h1 h2
 intro fuel
 induction fuel with
 | zero =>
  intro listed s a w hsz hdc hlen hI hst hvc
  have h0 : rem ops listed = [] := List.length_eq_zero_iff.1 (Nat.le_zero.1 hlen)
  rw [h0] at hvc
  refine ⟨?_, hQ s a w hvc hst⟩
  refine List.eq_nil_iff_forall_not_mem.2 fun i hi => ?_
  obtain ⟨h1, o, h2, _⟩ := mem_ready.1 hi
  have := mem_rem.2 ⟨h2, h1⟩
  rw [h0] at this
  cases this
 | succ fuel ih =>
  intro listed s a w hsz hdc hlen hI hst hvc
  refine ⟨fun h0 => ?_, fun j hj => ?_⟩
  ·have h1 : rem ops listed = [] := Classical.byContradiction fun hne => hready0 listed hsz hne h0
   rw [h1] at hvc
   exact hQ s a w hvc hst
  ·obtain ⟨hu, x, hx, hall⟩ := mem_ready.1 hj
   obtain ⟨pre, post, e1, e2, hpre⟩ := rem_split hx hu
   have hpremem : ∀ y ∈ pre, ops[y.2]? = some y.1 ∧ listed.getD y.2 true = false := fun y hy => mem_rem.1 (by rw [e1]; exact List.mem_append_left _ hy)
   rw [e1, List.map_append, List.map_cons] at hvc
   have hD : ∀ e ∈ x.after.toList, Region.binds .any e = true → listed.getD e.on true = true := by
    intro e he hb
    have h1 := hall e (by simpa using he) hb
    rcases Nat.lt_or_ge e.on listed.size with h | h
    ·simpa [h] using h1
    ·simp [Array.getElem?_eq_none h] at h1
   have hfr : ∀ o ∈ pre.map (·.1), swapB own P ops o x = true := by
    intro o ho
    obtain ⟨⟨o, i⟩, hm, rfl⟩ := List.mem_map.1 ho
    obtain ⟨h1, h2⟩ := hpremem _ hm
    rcases hpair j x i o hx h1 (hpre _ hm) with h3 | h3
    ·exfalso
     have := masks_spec (D := fun i => listed.getD i true = true) (L := ops.toList) (fun i o ho hDi e he hb => hdc i o (by simpa using ho) hDi e he hb) ops.toList [] (fun j => by simp) (fun k i _ h => by simp at h) j i (fun o ho e he hb => by
      have : o = x := by simpa [hx] using ho.symm
      subst this
      exact hD e he hb) h3
     rw [h2] at this
     cases this
    ·exact swapB_symm h3
   have hd : ∀ o ∈ pre.map (·.1), ∀ d, o.dst = some d → d < n := by
    intro o ho
    obtain ⟨⟨o, i⟩, hm, rfl⟩ := List.mem_map.1 ho
    exact hds o (by have := (hpremem _ hm).1; exact List.mem_of_getElem? (by simpa using this))
   have hfront := vcOps_front hC _ hfr hd s a w hI hst hvc
   have hxm : x ∈ ops.toList := List.mem_of_getElem? (i := j) (by simpa using hx)
   have hsound := ops_sound (Q := fun e a w => match e with | .normal => wpAny C.P .any ops Q fuel (listed.setIfInBounds j true) a w | e => Q e a w) hC (ops := ops) [x] _ s (by intro o' ho' d hd'; simp at ho'; subst ho'; exact hds _ hxm d hd') hfront a w hI hst fun s1 a1 w1 hk hI1 hs => by
    refine ih _ s1 a1 w1 (by simpa using hsz) ?_ ?_ hI1 hs ?_
    ·intro i o ho hl e he hb
     by_cases hij : j = i
     ·subst hij
      have : o = x := by rw [hx] at ho; cases ho; rfl
      subst this
      by_cases hje : j = e.on
      ·have := hedge _ _ ho e he hb; omega
      ·rw [getD_set_ne true hje]; exact hD e he hb
     ·rw [getD_set_ne true hij] at hl
      by_cases hje : j = e.on
      ·rw [← hje]
       have : j < listed.size := by rw [hsz]; exact (Array.getElem?_eq_some_iff.1 hx).1
       simp [this]
      ·rw [getD_set_ne true hje]; exact hdc i o ho hl e he hb
    ·rw [e2]
     rw [e1] at hlen
     simp at hlen ⊢
     omega
    ·rw [e2, List.map_append]; exact hk
   unfold wpOp
   rw [hx]
   simp only
   unfold wpList at hsound
   split
   ·rename_i hw
    rw [if_pos hw] at hsound
    rcases hsound with h1 | ⟨h1, h2⟩
    ·exact .inl (wp_Q (fun _ _ _ h => h) (fun h => h) h1)
    ·exact .inr ⟨h1, h2⟩
   ·rename_i hw
    rw [if_neg hw] at hsound
    exact hsound
end
end
end Go.Vc
namespace Go.Vc
open Go Go.RowKit
section
variable {C : Cx} {own : Nat → Bool} {ops : Array Oper} {n : Nat} {F : Fm} {ok0 : Nat → Prop} {w0 : World}
theorem okT_front (hC : CxOk C) {P : List Nat} (hds : ∀ o ∈ ops.toList, ∀ d, o.dst = some d → d < n) {b : List Nat} {K : S → Prop} : ∀ (t : Tr) (full : Bool) (rem : List Nat) (y : Nat) (x : Oper), rem.Nodup → y ∈ rem → ops[y]? = some x → (∀ i ∈ rem, (b.getD y 0).testBit i = false) →
  (∀ i ∈ rem, i < b.length) → (full = false → y ∈ t.heads) → okT own P ops b full rem t = true →
  ∃ t', okT own P ops b true (rem.erase y) t' = true ∧ ∀ (s : S) (a : Act) (w : World), Inv P s → St C n F ok0 w0 s a w → vcTr C own P ops t K s → ∃ s', Inv P s' ∧ St C n F ok0 w0 s' a w ∧ vcOps C own P ops [x] (vcTr C own P ops t' K) s' ∧
   (s' = s ∨ ∀ i, i < b.length → i ∉ rem → (b.getD y 0).testBit i = true)
 | .fin, full, rem, y, x, hnd, hy, hx, hr, hb, hh, h => by
  simp only [okT, Bool.and_eq_true, List.isEmpty_iff] at h
  rw [h.2] at hy
  cases hy
 | .one i t, full, rem, y, x, hnd, hy, hx, hr, hb, hh, h => by
  simp only [okT, Bool.and_eq_true] at h
  obtain ⟨⟨h1, h2⟩, h3⟩ := h
  by_cases e : y = i
  ·subst e
   refine ⟨t, h3, fun s a w hI hst hv => ?_⟩
   simp only [vcTr] at hv
   obtain ⟨o, ho, hv⟩ := (opAt_eq _ _ _).1 hv
   have : o = x := by simpa [hx] using ho.symm
   rw [← this]
   exact ⟨s, hI, hst, hv, .inl rfl⟩
  ·cases full with
   | false => exact absurd (by simpa [Tr.heads] using hh rfl) e
   | true =>
    simp only [Bool.not_true, Bool.false_or] at h2
    have h2 := List.all_eq_true.1 h2
    have hi : i ∈ rem := by simpa using h1
    obtain ⟨t2, g1, g2⟩ := okT_front hC hds t true (rem.erase i) y x (hnd.erase i) ((hnd.mem_erase_iff).2 ⟨e, hy⟩) hx (fun j hj => hr j (List.mem_of_mem_erase hj)) (fun j hj => hb j (List.mem_of_mem_erase hj)) (by intro h; cases h) h3
    refine ⟨.one i t2, ?_, fun s a w hI hst hv => ?_⟩
    ·simp only [okT, Bool.and_eq_true]
     refine ⟨⟨by simpa using (hnd.mem_erase_iff).2 ⟨fun e' => e e'.symm, hi⟩, ?_⟩, by rw [List.erase_comm]; exact g1⟩
     simp only [Bool.not_true, Bool.false_or]
     exact List.all_eq_true.2 fun j hj => h2 j (List.mem_of_mem_erase hj)
    ·have hsw := h2 y hy
     have he : Nat.beq y i = false := by rw [← Bool.not_eq_true, Nat.beq_eq]; exact e
     rw [he, hr i hi] at hsw
     simp only [Bool.false_or, hx] at hsw
     cases eo : ops[i]? with
     | none => rw [eo] at hsw; cases hsw
     | some o =>
      rw [eo] at hsw
      simp only at hsw
      simp only [vcTr] at hv ⊢
      obtain ⟨o', ho', hv⟩ := (opAt_eq _ _ _).1 hv
      obtain rfl : o = o' := by simpa [eo] using ho'
      have hom : o ∈ ops.toList := List.mem_of_getElem? (i := i) (by simpa using eo)
      obtain ⟨s2, hK, hI', hself⟩ := one_s hsw hI hv
      obtain ⟨s1, a1, w1, rfl, hst1⟩ := op_exists hC (hds o hom) (hself (fun s1 => s1 = s2) rfl) hI hst
      obtain ⟨s3, _, _, ih, hcase⟩ := g2 _ a1 w1 hI' hst1 hK
      have he3 : s3 = s1 := by
       rcases hcase with e3 | e3
       ·exact e3
       ·have := e3 i (hb i hi) (fun hc => ((hnd.mem_erase_iff).1 hc).1 rfl)
        rw [hr i hi] at this
        cases this
      subst he3
      have hwf : WF s := by obtain ⟨ok, β, h⟩ := hst; exact h.wf
      have hend := vc_sw hsw hwf hI (hself _ ih)
      have e2 : vcTr C own P ops (.one i t2) K = vcOps C own P ops [o] (vcTr C own P ops t2 K) := by
       funext s
       simp only [vcTr]
       exact propext ((opAt_eq _ _ _).trans ⟨fun ⟨o2, h1, h2⟩ => by rw [ho'] at h1; cases h1; exact h2, fun h => ⟨o, ho', h⟩⟩)
      rw [show (fun s => opAt ops.toList i fun o => vcOps C own P ops [o] (vcTr C own P ops t2 K) s) = vcOps C own P ops [o] (vcTr C own P ops t2 K) from e2]
      exact ⟨s, hI, hst, hend, .inl rfl⟩
 | .keep ts os t, full, rem, y, x, hnd, hy, hx, hr, hb, hh, h => by
  simp only [okT, Bool.and_eq_true] at h
  obtain ⟨hf, h0, h1, h3⟩ := h
  subst hf
  obtain rfl := emptyP h0
  cases ei : t.isOne with
  | none => rw [ei] at h1; cases h1
  | some i =>
   rw [ei] at h1
   simp only [Bool.and_eq_true, List.all_eq_true, Bool.or_eq_true] at h1
   obtain ⟨q1, q2, q3⟩ := h1
   have hi : i ∈ rem := by simpa using q1
   have hyi : y = i := by
    rcases q2 y hy with e | e
    ·exact Nat.eq_of_beq_eq_true e
    ·rw [hr i hi] at e; cases e
   subst hyi
   cases t with
   | one i2 t2 =>
    simp only [Tr.isOne, Option.some.injEq] at ei
    subst ei
    simp only [okT, Bool.and_eq_true] at h3
    refine ⟨t2, h3.2, fun s a w hI hst hv => ?_⟩
    simp only [vcTr] at hv
    obtain ⟨σ, hst', hv⟩ := St_keep hst hv
    obtain ⟨o, ho, hv⟩ := (opAt_eq _ _ _).1 hv
    have : o = x := by simpa [hx] using ho.symm
    subst this
    refine ⟨σ, Inv.nil _, hst', hv, .inr fun j hj hn => ?_⟩
    rcases q3 j (List.mem_range.2 hj) with e | e
    ·exact absurd (by simpa using e) hn
    ·exact e
   | fin => simp [Tr.isOne] at ei
   | alt => simp [Tr.isOne] at ei
   | keep => simp [Tr.isOne] at ei
   | pin => simp [Tr.isOne] at ei
 | .pin i t, full, rem, y, x, hnd, hy, hx, hr, hb, hh, h => by
  simp only [okT, Bool.and_eq_true] at h
  obtain ⟨hf, h0, h1, h2, h3⟩ := h
  subst hf
  obtain rfl := emptyP h0
  have hi : i ∈ rem := by simpa using h1
  cases eo : ops[i]? with
  | none => rw [eo] at h2; cases h2
  | some o =>
   rw [eo] at h2
   simp only [Bool.and_eq_true] at h2
   obtain ⟨hpx, h2⟩ := h2
   have h2 := List.all_eq_true.1 h2
   by_cases e : y = i
   ·subst e
    refine ⟨t, h3, fun s a w hI hst hv => ?_⟩
    simp only [vcTr] at hv
    obtain ⟨o', ho, _, hv⟩ := (opAt_eq _ _ _).1 hv
    have : o' = x := by simpa [hx] using ho.symm
    rw [← this]
    exact ⟨s, hI, hst, hv, .inl rfl⟩
   ·obtain ⟨t2, g1, g2⟩ := okT_front hC hds t true (rem.erase i) y x (hnd.erase i) ((hnd.mem_erase_iff).2 ⟨e, hy⟩) hx (fun j hj => hr j (List.mem_of_mem_erase hj)) (fun j hj => hb j (List.mem_of_mem_erase hj)) (by intro h; cases h) h3
    refine ⟨.pin i t2, ?_, fun s a w hI hst hv => ?_⟩
    ·simp only [okT, Bool.and_eq_true, Bool.true_and]
     refine ⟨rfl, by simpa using (hnd.mem_erase_iff).2 ⟨fun e' => e e'.symm, hi⟩, ?_, by rw [List.erase_comm]; exact g1⟩
     rw [eo]
     simp only [Bool.and_eq_true]
     exact ⟨hpx, List.all_eq_true.2 fun j hj => h2 j (List.mem_of_mem_erase hj)⟩
    ·have hsw := h2 y hy
     have he : Nat.beq y i = false := by rw [← Bool.not_eq_true, Nat.beq_eq]; exact e
     rw [he, hr i hi, hx] at hsw
     simp only [Bool.false_or, Bool.and_eq_true, Bool.or_eq_true, Option.isNone_iff_eq_none] at hsw
     obtain ⟨p1, p2, p3⟩ := hsw
     simp only [vcTr] at hv ⊢
     obtain ⟨o', ho', hpin, hv⟩ := (opAt_eq _ _ _).1 hv
     obtain rfl : o = o' := by simpa [eo] using ho'
     have hom : o ∈ ops.toList := List.mem_of_getElem? (i := i) (by simpa using eo)
     obtain ⟨u, hK, _, _, _, hI', u4⟩ := step1_free (pin_free (own := own) hpx) hv
     have hself : ∀ K' : S → Prop, K' (s.app o.dst u) → vcOps C own [] ops [o] K' s := u4 s (fun _ _ => rfl) (fun _ _ => rfl) (fun _ _ => rfl)
     obtain ⟨s1, a1, w1, rfl, hst1⟩ := op_exists hC (hds o hom) (hself (fun s1 => s1 = s.app o.dst u) rfl) hI hst
     obtain ⟨s3, _, _, ih, hcase⟩ := g2 _ a1 w1 (Inv.nil _) hst1 hK
     have he3 : s3 = s.app o.dst u := by
      rcases hcase with e3 | e3
      ·exact e3
      ·have := e3 i (hb i hi) (fun hc => ((hnd.mem_erase_iff).1 hc).1 rfl)
       rw [hr i hi] at this
       cases this
     subst he3
     have hwf : WF s := by obtain ⟨ok, β, h⟩ := hst; exact h.wf
     have p3' : freeO own x = true ∨ isMut own x = true ∧ x.guard = none ∧ lowQ own o x = true := p3
     have hend := pin_swap hpx p1 p2 p3' hwf hpin (pinX_dst hpx) (hself _ ih)
     have e2 : (fun s => opAt ops.toList i fun o => pinOk o s.ev ∧ vcOps C own [] ops [o] (vcTr C own [] ops t2 K) s) = fun s => pinOk o s.ev ∧ vcOps C own [] ops [o] (vcTr C own [] ops t2 K) s := by
      funext s
      exact propext ((opAt_eq _ _ _).trans ⟨fun ⟨o2, h1, h2⟩ => by rw [ho'] at h1; cases h1; exact h2, fun h => ⟨o, ho', h⟩⟩)
     rw [e2]
     exact ⟨s, hI, hst, hend, .inl rfl⟩
 | .alt p q, full, rem, y, x, hnd, hy, hx, hr, hb, hh, h => by
  simp only [okT, Bool.and_eq_true] at h
  obtain ⟨⟨h1, h2⟩, h3⟩ := h
  have hm : y ∈ p.heads ++ q.heads := by
   cases full with
   | false => exact hh rfl
   | true =>
    simp only [Bool.not_true, Bool.false_or] at h1
    have h1 := List.all_eq_true.1 h1 y hy
    rw [Bool.or_eq_true] at h1
    rcases h1 with h1 | h1
    ·simpa using h1
    ·rw [List.any_eq_true] at h1
     obtain ⟨i, hi, h1⟩ := h1
     rw [hr i hi] at h1
     cases h1
  rcases List.mem_append.1 hm with hm | hm
  ·obtain ⟨t', g1, g2⟩ := okT_front hC hds p false rem y x hnd hy hx hr hb (fun _ => hm) h2
   exact ⟨t', g1, fun s a w hI hst hv => g2 s a w hI hst hv.1⟩
  ·obtain ⟨t', g1, g2⟩ := okT_front hC hds q false rem y x hnd hy hx hr hb (fun _ => hm) h3
   exact ⟨t', g1, fun s a w hI hst hv => g2 s a w hI hst hv.2⟩
theorem okT_nil {P : List Nat} {b : List Nat} {K : S → Prop} {t : Tr} (h : okT own P ops b true [] t = true) {s : S} (hv : vcTr C own P ops t K s) : K s := by
 have key : ∀ (t : Tr) (full : Bool), okT own P ops b full [] t = true → vcTr C own P ops t K s → K s := by
  intro t
  induction t with
  | fin => intro full h hv; exact hv
  | one i t ih => intro full h hv; simp [okT] at h
  | pin i t ih => intro full h hv; simp [okT] at h
  | keep ts os t ih =>
   intro full h hv
   simp only [okT, Bool.and_eq_true] at h
   obtain ⟨_, _, h1, _⟩ := h
   cases ei : t.isOne with
   | none => rw [ei] at h1; cases h1
   | some i => rw [ei] at h1; simp at h1
  | alt p q ih1 ih2 =>
   intro full h hv
   simp only [okT, Bool.and_eq_true] at h
   exact ih1 false h.1.2 hv.1
 exact key t true h hv
theorem draw_tr (hC : CxOk C) {P : List Nat} (hds : ∀ o ∈ ops.toList, ∀ d, o.dst = some d → d < n) (hedge : ∀ i o, ops[i]? = some o → ∀ e ∈ o.after.toList, Region.binds .any e = true → e.on < i) {Kp : S → Prop} {Q : Exit → Act → World → Prop} (hQ : ∀ s a w, Kp s → St C n F ok0 w0 s a w → Q .normal a w) :
  ∀ (fuel : Nat) (listed : Array Bool) (rm : List Nat) (t : Tr) (s : S) (a : Act) (w : World), listed.size = ops.size → (∀ i o, ops[i]? = some o → listed.getD i true = true → ∀ e ∈ o.after.toList, Region.binds .any e = true → listed.getD e.on true = true) →
   rm.Nodup → (∀ i, i ∈ rm ↔ i < ops.size ∧ listed.getD i true = false) → rm.length ≤ fuel → Inv P s → St C n F ok0 w0 s a w → okT own P ops (masks ops.toList []) true rm t = true → vcTr C own P ops t Kp s → wpAny C.P .any ops Q fuel listed a w := by
 have hready0 : ∀ (listed : Array Bool), listed.size = ops.size → (∃ i, i < ops.size ∧ listed.getD i true = false) → Region.ready .any ops listed ≠ [] := by
  intro listed hsz hne
  have key : ∀ m i, i ≤ m → ∀ o, ops[i]? = some o → listed.getD i true = false → Region.ready .any ops listed ≠ [] := by
   intro m
   induction m with
   | zero =>
    intro i him o ho hu
    have : i ∈ Region.ready .any ops listed := by
     rw [mem_ready]
     refine ⟨hu, o, ho, fun e he hb => ?_⟩
     have := hedge i o ho e (by simpa using he) hb
     omega
    intro h0
    rw [h0] at this
    cases this
   | succ m ih =>
    intro i him o ho hu
    by_cases hex : ∃ e ∈ o.after.toList, Region.binds .any e = true ∧ listed.getD e.on true = false
    ·obtain ⟨e, he, hb, hu'⟩ := hex
     have hlt := hedge i o ho e he hb
     have hsz' : e.on < ops.size := by have := (Array.getElem?_eq_some_iff.1 ho).1; omega
     exact ih e.on (by omega) ops[e.on] (by simp [hsz']) hu'
    ·have : i ∈ Region.ready .any ops listed := by
      rw [mem_ready]
      refine ⟨hu, o, ho, fun e he hb => ?_⟩
      have h1 : listed.getD e.on true = true := by
       cases h : listed.getD e.on true with
       | true => rfl
       | false => exact absurd ⟨e, by simpa using he, hb, h⟩ hex
      have hlt := hedge i o ho e (by simpa using he) hb
      have hsz' : e.on < listed.size := by have := (Array.getElem?_eq_some_iff.1 ho).1; omega
      simpa [hsz'] using h1
     intro h0
     rw [h0] at this
     cases this
  obtain ⟨i, h1, h2⟩ := hne
  exact key i i (Nat.le_refl _) ops[i] (by simp [h1]) h2
 intro fuel
 induction fuel with
 | zero =>
  intro listed rm t s a w hsz hdc hnd hrm hlen hI hst hok hvc
  have h0 : rm = [] := List.length_eq_zero_iff.1 (Nat.le_zero.1 hlen)
  subst h0
  refine ⟨?_, hQ s a w (okT_nil hok hvc) hst⟩
  refine List.eq_nil_iff_forall_not_mem.2 fun i hi => ?_
  obtain ⟨h1, o, h2, _⟩ := mem_ready.1 hi
  have := (hrm i).2 ⟨(Array.getElem?_eq_some_iff.1 h2).1, h1⟩
  cases this
 | succ fuel ih =>
  intro listed rm t s a w hsz hdc hnd hrm hlen hI hst hok hvc
  refine ⟨fun h0 => ?_, fun j hj => ?_⟩
  ·have h1 : rm = [] := by
    refine List.eq_nil_iff_forall_not_mem.2 fun i hi => ?_
    exact hready0 listed hsz ⟨i, (hrm i).1 hi⟩ h0
   subst h1
   exact hQ s a w (okT_nil hok hvc) hst
  ·obtain ⟨hu, x, hx, hall⟩ := mem_ready.1 hj
   have hjlt := (Array.getElem?_eq_some_iff.1 hx).1
   have hjm : j ∈ rm := (hrm j).2 ⟨hjlt, hu⟩
   have hD : ∀ e ∈ x.after.toList, Region.binds .any e = true → listed.getD e.on true = true := by
    intro e he hb
    have h1 := hall e (by simpa using he) hb
    rcases Nat.lt_or_ge e.on listed.size with h | h
    ·simpa [h] using h1
    ·simp [Array.getElem?_eq_none h] at h1
   have hnb : ∀ i ∈ rm, ((masks ops.toList []).getD j 0).testBit i = false := by
    intro i hi
    cases h3 : ((masks ops.toList []).getD j 0).testBit i with
    | false => rfl
    | true =>
     exfalso
     have := masks_spec (D := fun i => listed.getD i true = true) (L := ops.toList) (fun i o ho hDi e he hb => hdc i o (by simpa using ho) hDi e he hb) ops.toList [] (fun j => by simp) (fun k i _ h => by simp at h) j i (fun o ho e he hb => by
      have : o = x := by simpa [hx] using ho.symm
      subst this
      exact hD e he hb) h3
     rw [((hrm i).1 hi).2] at this
     cases this
   have hml : (masks ops.toList []).length = ops.size := by
    have key : ∀ (l : List Oper) (acc : List Nat), (masks l acc).length = acc.length + l.length := by
     intro l
     induction l with
     | nil => intro acc; simp [masks]
     | cons o l ih => intro acc; simp only [masks, ih, List.length_append, List.length_cons, List.length_nil]; omega
    rw [key]
    simp
   obtain ⟨t', hok', hfr⟩ := okT_front (K := Kp) hC hds t true rm j x hnd hjm hx hnb (fun i hi => by rw [hml]; exact ((hrm i).1 hi).1) (by intro h; cases h) hok
   obtain ⟨s, hI, hst, hfront, _⟩ := hfr s a w hI hst hvc
   have hxm : x ∈ ops.toList := List.mem_of_getElem? (i := j) (by simpa using hx)
   have hjs : j < listed.size := by rw [hsz]; exact hjlt
   have hsound := ops_sound (Q := fun e a w => match e with | .normal => wpAny C.P .any ops Q fuel (listed.setIfInBounds j true) a w | e => Q e a w) hC (ops := ops) [x] _ s (by intro o' ho' d hd'; simp at ho'; subst ho'; exact hds _ hxm d hd') hfront a w hI hst fun s1 a1 w1 hk hI1 hs => by
    refine ih _ (rm.erase j) t' s1 a1 w1 (by simpa using hsz) ?_ (hnd.erase j) ?_ ?_ hI1 hs hok' hk
    ·intro i o ho hl e he hb
     by_cases hij : j = i
     ·subst hij
      have : o = x := by rw [hx] at ho; cases ho; rfl
      subst this
      by_cases hje : j = e.on
      ·have := hedge _ _ ho e he hb; omega
      ·rw [getD_set_ne true hje]; exact hD e he hb
     ·rw [getD_set_ne true hij] at hl
      by_cases hje : j = e.on
      ·rw [← hje]
       simp [hjs]
      ·rw [getD_set_ne true hje]; exact hdc i o ho hl e he hb
    ·intro i
     rw [hnd.mem_erase_iff, hrm i]
     by_cases hij : j = i
     ·subst hij
      simp [hjs]
     ·rw [getD_set_ne true hij]
      exact ⟨fun h => h.2, fun h => ⟨fun e => hij e.symm, h⟩⟩
    ·rw [List.length_erase_of_mem hjm]
     omega
   unfold wpOp
   rw [hx]
   simp only
   unfold wpList at hsound
   split
   ·rename_i hw
    rw [if_pos hw] at hsound
    rcases hsound with h1 | ⟨h1, h2⟩
    ·exact .inl (wp_Q (fun _ _ _ h => h) (fun h => h) h1)
    ·exact .inr ⟨h1, h2⟩
   ·rename_i hw
    rw [if_neg hw] at hsound
    exact hsound
end
end Go.Vc
namespace Go.Vc
open Go Go.RowKit
theorem okC_label {n : Nat} : ∀ {c rest : Code} {l : Nat}, findLabel c l = some rest → okC n c = true → okC n rest = true
 | .seq x y, rest, l, h, hok => by
  simp only [okC, Bool.and_eq_true] at hok
  simp only [findLabel] at h
  split at h
  ·rename_i r e
   cases h
   simp only [okC, Bool.and_eq_true]
   exact ⟨okC_label e hok.1, hok.2⟩
  ·exact okC_label h hok.2
 | .label l', rest, l, h, hok => by
  simp only [findLabel] at h
  split at h
  ·cases h; rfl
  ·cases h
 | .skip, _, _, h, _ | .region .., _, _, h, _ | .cond .., _, _, h, _ | .block .., _, _, h, _ | .loop _, _, _, h, _ | .exit _, _, _, h, _ | .ret, _, _, h, _ | .rangeFunc .., _, _, h, _ | .scope _, _, _, h, _ | .goto _, _, _, h, _ | .refuse _, _, _, h, _ => by cases h
section
variable {C : Cx} {cfg : Cfg} {n : Nat} {F : Fm} {ok0 : Nat → Prop} {w0 : World}
theorem region_sound (hC : CxOk C) {id : Nat} {ops : Array Oper} {Kp : S → Prop} {s : S} (hds : ∀ o ∈ ops.toList, ∀ d, o.dst = some d → d < n) (hvc : vcOps C cfg.own [] ops ops.toList Kp s) {a : Act} {w : World} (h : St C n F ok0 w0 s a w) {Q : Exit → Act → World → Prop}
  (hQ : ∀ s a w, Kp s → St C n F ok0 w0 s a w → Q .normal a w) : (Code.region id ops false).wp C.P Q a w :=
 wp_region_list (ops_sound hC ops.toList Kp s hds hvc a w (Inv.nil s) h fun s a w hk _ hs => hQ s a w hk hs)
theorem draw_sound (hC : CxOk C) (hm : C.P.follows .mixedOrders = true) {id : Nat} {ops : Array Oper} {Kp : S → Prop} {s : S} (hds : ∀ o ∈ ops.toList, ∀ d, o.dst = some d → d < n) {P : List Nat} (hi : indep cfg.own P ops = true) (hI : Inv P s) (hvc : vcOps C cfg.own P ops ops.toList Kp s) {a : Act} {w : World} (h : St C n F ok0 w0 s a w) {Q : Exit → Act → World → Prop}
  (hQ : ∀ s a w, Kp s → St C n F ok0 w0 s a w → Q .normal a w) : (Code.region id ops true).wp C.P Q a w := by
 refine wp_region_any hm ?_
 have hrem : rem ops (Array.replicate ops.size false) = ops.toList.zipIdx := by
  unfold rem
  refine List.filter_eq_self.2 fun y hy => ?_
  obtain ⟨_, h2, _⟩ := List.mem_zipIdx hy
  have : y.2 < ops.size := by simpa using h2
  simp [this]
 obtain ⟨ok, β, h⟩ := h
 have h' : StO C n F ok0 w0 ok β s a { w with drawn := w.drawn + 1 } := h.world hC (ok' := ok) ⟨h.below.os, h.below.tape, h.below.output, h.below.size, fun b hb hm => h.below.block b hb hm⟩ (Nat.le_refl _) (fun b _ _ => rfl) (fun _ h => h) (fun _ h => .inl h)
 refine draw_go (own := cfg.own) hC hds hi hQ ops.size _ s a _ (by simp) ?_ ?_ hI ⟨ok, β, h'⟩ ?_
 ·intro i o ho hl
  exfalso
  have : i < ops.size := (Array.getElem?_eq_some_iff.1 ho).1
  simp [this] at hl
 ·rw [hrem]; simp
 ·rw [hrem]
  simpa using hvc
theorem drawT_sound (hC : CxOk C) (hm : C.P.follows .mixedOrders = true) {id : Nat} {ops : Array Oper} {Kp : S → Prop} {s : S} (hds : ∀ o ∈ ops.toList, ∀ d, o.dst = some d → d < n) {P : List Nat} {b : List Nat} {t : Tr} (hi : treeOk cfg.own P ops b t = true) (hI : Inv P s) (hvc : vcTr C cfg.own P ops t Kp s) {a : Act} {w : World} (h : St C n F ok0 w0 s a w) {Q : Exit → Act → World → Prop}
  (hQ : ∀ s a w, Kp s → St C n F ok0 w0 s a w → Q .normal a w) : (Code.region id ops true).wp C.P Q a w := by
 refine wp_region_any hm ?_
 unfold treeOk at hi
 rw [Bool.and_eq_true, Bool.and_eq_true, List.all_eq_true] at hi
 obtain ⟨⟨h1, hb⟩, h2⟩ := hi
 have hb := eqL_eq hb
 subst hb
 have hlen : (masks ops.toList []).length = ops.size := by
  have key : ∀ (l : List Oper) (acc : List Nat), (masks l acc).length = acc.length + l.length := by
   intro l
   induction l with
   | nil => intro acc; simp [masks]
   | cons o l ih => intro acc; simp only [masks, ih, List.length_append, List.length_cons, List.length_nil]; omega
  rw [key]
  simp
 rw [hlen] at h2
 obtain ⟨ok, β, h⟩ := h
 have h' : StO C n F ok0 w0 ok β s a { w with drawn := w.drawn + 1 } := h.world hC (ok' := ok) ⟨h.below.os, h.below.tape, h.below.output, h.below.size, fun b hb hm => h.below.block b hb hm⟩ (Nat.le_refl _) (fun b _ _ => rfl) (fun _ h => h) (fun _ h => .inl h)
 refine draw_tr (own := cfg.own) hC hds (fun i o ho e he hb => ?_) hQ ops.size _ (List.range ops.size) t s a _ (by simp) ?_ List.nodup_range ?_ (by simp) hI ⟨ok, β, h'⟩ h2 hvc
 ·have := h1 (o, i) (by rw [List.mk_mem_zipIdx_iff_getElem?]; simpa using ho)
  simp only [Bool.and_eq_true, List.all_eq_true] at this
  have := this.1 e he
  simpa [hb, Nat.blt_eq] using this
 ·intro i o ho hl
  exfalso
  have : i < ops.size := (Array.getElem?_eq_some_iff.1 ho).1
  simp [this] at hl
 ·intro i
  simp only [List.mem_range]
  constructor
  ·intro hi; exact ⟨hi, by simp [hi]⟩
  ·exact fun h => h.1
theorem vc_sound (hC : CxOk C) (hm : C.P.follows .mixedOrders = true) : ∀ (c : Code) (Qv : Exit → S → Prop) (s : S) (a : Act) (w : World), okC n c = true → vc C cfg c Qv s → St C n F ok0 w0 s a w →
  c.wp C.P (fun e a' w' => ∃ s', Qv e s' ∧ St C n F ok0 w0 s' a' w') a w
 | .skip, Qv, s, a, w, _, hvc, h => _root_.Go.wp_skip ⟨s, hvc, h⟩
 | .region id ops draw, Qv, s, a, w, hok, hvc, h => by
  have hds : ∀ o ∈ ops.toList, ∀ d, o.dst = some d → d < n := by
   intro o ho d hd
   rw [okC, List.all_eq_true] at hok
   have := hok o ho
   rw [hd] at this
   simpa [Nat.blt_eq] using this
  simp only [vc] at hvc
  obtain ⟨s, h, hvc⟩ := St_keep h hvc
  have h2 := St_frzL hC (cfg.fz id) (St_nlL (cfg.nl id) h)
  cases draw with
  | false => exact region_sound hC hds hvc h2 fun s a w hk hs => ⟨s, hk, hs⟩
  | true =>
   simp only [cond_true] at hvc
   split at hvc
   ·exact draw_sound hC hm hds hvc.1.h (Inv.nrm _ _) hvc.2 (St_nrm h2) fun s a w hk hs => ⟨s, hk, hs⟩
   ·exact drawT_sound hC hm hds hvc.1.h (Inv.nrm _ _) hvc.2 (St_nrm h2) fun s a w hk hs => ⟨s, hk, hs⟩
 | .seq x y, Qv, s, a, w, hok, hvc, h => by
  simp only [okC, Bool.and_eq_true] at hok
  simp only [vc] at hvc
  refine wp_seq (wp_mono (vc_sound hC hm x _ s a w hok.1 hvc h) fun e a' w' hq => ?_)
  obtain ⟨s', hq, hs⟩ := hq
  cases e with
  | normal => exact vc_sound hC hm y _ s' a' w' hok.2 hq hs
  | exit id => exact ⟨s', hq, hs⟩
  | goto l => exact ⟨s', hq, hs⟩
  | ret => exact ⟨s', hq, hs⟩
  | panic ch => exact ⟨s', hq, hs⟩
  | outgrown => exact ⟨s', hq, hs⟩
 | .cond c x y, Qv, s, a, w, hok, hvc, h => by
  simp only [okC, Bool.and_eq_true] at hok
  simp only [vc] at hvc
  obtain ⟨ok, β, h'⟩ := h
  split at hvc
  ·rename_i t e
   have hc := ev_bool h' e
   cases t with
   | true => exact wp_cond_true hc (vc_sound hC hm x _ s a w hok.1 hvc ⟨ok, β, h'⟩)
   | false => exact wp_cond_false hc (vc_sound hC hm y _ s a w hok.2 hvc ⟨ok, β, h'⟩)
  ·rename_i L e
   have hr := ev_R h' c
   rw [e, R] at hr
   obtain ⟨b, hb, hn⟩ := hr
   cases b with
   | true => exact wp_cond_true hb (vc_sound hC hm x _ s a w hok.1 (hvc.1 (hn rfl)) ⟨ok, β, h'⟩)
   | false => exact wp_cond_false hb (vc_sound hC hm y _ s a w hok.2 hvc.2 ⟨ok, β, h'⟩)
  ·exact hvc.elim
 | .block id c, Qv, s, a, w, hok, hvc, h => by
  simp only [okC] at hok
  simp only [vc] at hvc
  refine wp_block (wp_mono (vc_sound hC hm c _ s a w hok hvc h) fun e a' w' hq => ?_)
  obtain ⟨s', hq, hs⟩ := hq
  cases e with
  | exit id' =>
   simp only [Exit.inBlock]
   simp only at hq
   rw [beq_ite] at hq
   split
   ·rename_i e; rw [if_pos e] at hq; exact ⟨s', hq, hs⟩
   ·rename_i e; rw [if_neg e] at hq; exact ⟨s', hq, hs⟩
  | normal => exact ⟨s', hq, hs⟩
  | goto l => exact ⟨s', hq, hs⟩
  | ret => exact ⟨s', hq, hs⟩
  | panic ch => exact ⟨s', hq, hs⟩
  | outgrown => exact ⟨s', hq, hs⟩
 | .loop c, Qv, s, a, w, hok, hvc, h => by
  simp only [okC] at hok
  simp only [vc] at hvc
  obtain ⟨ι, σ, μ, i0, hge, hround⟩ := hvc
  intro b k cs
  have key : ∀ m i a w, μ i = m → St C n F ok0 w0 (σ i) a w → ∃ e a' w', (∃ s', Qv e s' ∧ St C n F ok0 w0 s' a' w') ∧ Arrives C.P (lone (b.at a (.code c :: .inLoop c :: k)) cs w) b k cs e a' w' := by
   intro m
   induction m using Nat.strongRecOn with
   | _ m ih =>
    intro i a w hm' hst
    obtain ⟨e, a₁, w₁, ⟨s', hq, hs⟩, harr⟩ := vc_sound hC hm c _ (σ i) a w hok (hround i) hst b (.inLoop c :: k) cs
    cases e with
    | normal =>
     obtain ⟨i', hge', hlt⟩ := hq
     obtain ⟨e₂, a₂, w₂, hq₂, harr₂⟩ := ih (μ i') (hm' ▸ hlt) i' a₁ w₁ rfl (St_ge hs hge')
     exact ⟨e₂, a₂, w₂, hq₂, .of_steps (Steps.trans harr (.one step_inLoop)) harr₂⟩
    | exit id => exact ⟨_, a₁, w₁, ⟨s', hq, hs⟩, .pass (x := .inLoop c) rfl (fun _ _ => .inl (by simp)) harr⟩
    | goto l => exact ⟨_, a₁, w₁, ⟨s', hq, hs⟩, .pass (x := .inLoop c) rfl (fun _ _ => .inl (by simp)) harr⟩
    | ret => exact ⟨_, a₁, w₁, ⟨s', hq, hs⟩, .pass (x := .inLoop c) rfl (fun _ _ => .inl (by simp)) harr⟩
    | panic ch => exact ⟨_, a₁, w₁, ⟨s', hq, hs⟩, .pass (x := .inLoop c) rfl (fun _ _ => .inl (by simp)) harr⟩
    | outgrown => exact ⟨_, a₁, w₁, ⟨s', hq, hs⟩, .pass (x := .inLoop c) rfl (fun _ _ => .inl (by simp)) harr⟩
  obtain ⟨e, a', w', hq, harr⟩ := key _ i0 a w rfl (St_ge h hge)
  exact ⟨e, a', w', hq, .of_steps (.one step_loop) harr⟩
 | .exit id, Qv, s, a, w, _, hvc, h => wp_exit ⟨s, hvc, h⟩
 | .ret, Qv, s, a, w, _, hvc, h => wp_ret ⟨s, hvc, h⟩
 | .rangeFunc .., Qv, s, a, w, _, hvc, h => hvc.elim
 | .scope c, Qv, s, a, w, hok, hvc, h => by
  simp only [okC] at hok
  simp only [vc] at hvc
  obtain ⟨l, hvc⟩ := hvc
  cases hf : findLabel c l with
  | none =>
   refine wp_scope_straight (wp_mono (vc_sound hC hm c _ s a w hok hvc h) fun e a' w' hq => ?_)
   obtain ⟨s', hq, hs⟩ := hq
   cases e with
   | goto l' =>
    obtain ⟨rest, hr, _⟩ := hq.2.out
    rw [hf] at hr
    cases hr
   | normal => exact ⟨s', hq, hs⟩
   | exit id => exact ⟨s', hq, hs⟩
   | ret => exact ⟨s', hq, hs⟩
   | panic ch => exact ⟨s', hq, hs⟩
   | outgrown => exact ⟨s', hq, hs⟩
  | some rest =>
   refine wp_scope_jumps l (fun a w => ∃ s', ScopeR C c l Qv s' ∧ St C n F ok0 w0 s' a w) (fun _ _ => 0) hf (wp_mono (vc_sound hC hm c _ s a w hok hvc h) fun e a' w' hq => ?_) fun a w hJ => ?_
   ·obtain ⟨s', hq, hs⟩ := hq
    cases e with
    | goto l' => exact ⟨hq.1, s', hq.2, hs⟩
    | normal => exact ⟨s', hq, hs⟩
    | exit id => exact ⟨s', hq, hs⟩
    | ret => exact ⟨s', hq, hs⟩
    | panic ch => exact ⟨s', hq, hs⟩
    | outgrown => exact ⟨s', hq, hs⟩
   ·obtain ⟨s', ⟨rest', hr, hrun⟩, hs⟩ := hJ
    rw [hf] at hr
    cases hr
    refine wp_mono (hrun n F ok0 w0 a w hok hs) fun e a' w' hq => ?_
    obtain ⟨s2, hq, hs2⟩ := hq
    cases e with
    | goto l' => exact hq.elim
    | normal => exact ⟨s2, hq, hs2⟩
    | exit id => exact ⟨s2, hq, hs2⟩
    | ret => exact ⟨s2, hq, hs2⟩
    | panic ch => exact ⟨s2, hq, hs2⟩
    | outgrown => exact ⟨s2, hq, hs2⟩
 | .label _, Qv, s, a, w, _, hvc, h => wp_label ⟨s, hvc, h⟩
 | .goto l, Qv, s, a, w, _, hvc, h => wp_goto ⟨s, hvc, h⟩
 | .refuse _, Qv, s, a, w, _, hvc, h => hvc.elim
end
theorem ScopeR.of {C : Cx} {cfg : Cfg} {c rest : Code} {l : Nat} {Q : Exit → S → Prop} {s : S} (hC : CxOk C) (hm : C.P.follows .mixedOrders = true) (hf : findLabel c l = some rest)
  (hvc : vc C cfg rest (noGo Q) s) : ScopeR C c l Q s :=
 ⟨rest, hf, fun n F ok0 w0 a w hok h => vc_sound hC hm rest _ s a w (okC_label hf hok) hvc h⟩
mutual
def frzV (η : Nat → AO) : SV → Option PV
 | .p .nilS => some (.lst [])
 | .p x => some x
 | .slc κ => match η κ with
  | .row _ _ L => some (.lst L)
  | _ => none
 | .mix cs => (frzVL η cs).map .agg
 | _ => none
def frzVL (η : Nat → AO) : List SV → Option (List PV)
 | [] => some []
 | x :: xs => match frzV η x, frzVL η xs with
  | some y, some ys => some (y :: ys)
  | _, _ => none
end
def resSV (C : Cx) (s : S) : ResultVar → SV
 | .tmp t => s.ρ t
 | .cell t ty => match s.ρ t with
  | .ptr κ 0 => match s.η κ, C.T ty with
   | .var _ t' x, some _ => cond (Nat.beq t' ty) x .no
   | _, _ => .no
  | _ => .no
def LEP (x y : PV) : Prop := ∀ ok w v, RP ok w x v → RP ok w y v
theorem LEP.refl (x : PV) : LEP x x := fun _ _ _ h => h
def LEPL : List PV → List PV → Prop
 | [], [] => True
 | x :: xs, y :: ys => LEP x y ∧ LEPL xs ys
 | _, _ => False
def retVC (C : Cx) (s : S) (rs : List ResultVar) (r : Res) : Prop :=
 match rs, r with
 | [rv], .pv y => optP (frzV s.η (resSV C s rv)) fun z => z.force fun z => LEP z y
 | [rv], .fresh t sz L => match resSV C s rv with
  | .slc κ => match s.η κ with
   | .row t' sz' L' => t' = t ∧ sz' = sz ∧ L' = L
   | _ => False
  | _ => False
 | [], .tup ys => ys = []
 | rv :: rv' :: rs, .tup ys => optP (frzVL s.η ((rv :: rv' :: rs).map (resSV C s))) fun zs => PV.forceL zs fun zs => LEPL zs ys
 | _, _ => False
def S.init (args : List SV) (ηi : Nat → AO) : S := { ρ := fun t => args.getD t .no, η := ηi }
def endVC (C : Cx) (rs : List ResultVar) (r : Res) : Exit → S → Prop
 | .normal, s => retVC C s rs r
 | .ret, s => retVC C s rs r
 | _, _ => False
section
variable {C : Cx} {n : Nat} {F : Fm} {ok0 : Nat → Prop} {w0 : World} {ok : Nat → Prop} {β : Nat → Value} {s : S} {a : Act} {w : World}
mutual
theorem frzV_R {ok' : Nat → Prop} (h : StO C n F ok0 w0 ok β s a w) (hok : ∀ b, ok b → ok' b) (hrow : ∀ κ b, (s.η κ).mine = true → (β κ).ownBlock = some b → ok' b) : ∀ (x : SV) (z : PV) (v : Value), frzV s.η x = some z → R ok β w x v → RP ok' w z v
 | .p x, z, v, e, hr => by
  rw [R] at hr
  cases x with
  | nilS =>
   simp only [frzV, Option.some.injEq] at e
   subst e
   rw [RP] at hr
   rw [RP, hr]
   exact ⟨none, 0, 0, rfl, Nat.le_refl _, by simp [maxLen], trivial⟩
  | _ =>
   simp only [frzV, Option.some.injEq] at e
   subst e
   exact RP_stay hok (Stay.refl _ _) hr
 | .slc κ, z, v, e, hr => by
  simp only [frzV] at e
  split at e
  ·rename_i t sz L eη
   simp only [Option.some.injEq] at e
   subst e
   have hob := h.η κ
   rw [eη] at hob
   obtain ⟨_, ⟨xs, h1, h2⟩, _⟩ := hob
   rw [R] at hr
   rw [hr.1]
   exact row_lst h1 h2 hok fun b hb => hrow κ b (by rw [eη]; rfl) hb
  ·cases e
 | .mix cs, z, v, e, hr => by
  simp only [frzV, Option.map_eq_some_iff] at e
  obtain ⟨zs, e, rfl⟩ := e
  rw [R] at hr
  obtain ⟨vs, h1, h2, h3⟩ := hr
  rw [RP]
  exact ⟨vs, h1, h2, frzVL_R h hok hrow cs zs vs e h3⟩
 | .no, z, v, e, hr => by simp [frzV] at e
 | .elt _, z, v, e, hr => by simp [frzV] at e
 | .eltF _ _, z, v, e, hr => by simp [frzV] at e
 | .rowE _ _ _, z, v, e, hr => by simp [frzV] at e
 | .tl _ _ _, z, v, e, hr => by simp [frzV] at e
 | .ptr _ _, z, v, e, hr => by simp [frzV] at e
 | .fn _ _, z, v, e, hr => by simp [frzV] at e
 | .tupS _, z, v, e, hr => by simp [frzV] at e
 | .glob _, z, v, e, hr => by simp [frzV] at e
 | .nilQ _, z, v, e, hr => by simp [frzV] at e
theorem frzVL_R {ok' : Nat → Prop} (h : StO C n F ok0 w0 ok β s a w) (hok : ∀ b, ok b → ok' b) (hrow : ∀ κ b, (s.η κ).mine = true → (β κ).ownBlock = some b → ok' b) : ∀ (xs : List SV) (zs : List PV) (vs : List Value), frzVL s.η xs = some zs → RL ok β w xs vs → RPL ok' w zs vs
 | [], zs, [], e, hr => by simp [frzVL] at e; subst e; trivial
 | [], zs, _ :: _, e, hr => hr.elim
 | _ :: _, zs, [], e, hr => hr.elim
 | x :: xs, zs, v :: vs, e, hr => by
  simp only [frzVL] at e
  split at e
  ·rename_i y ys e1 e2
   simp only [Option.some.injEq] at e
   subst e
   exact ⟨frzV_R h hok hrow x y v e1 hr.1, frzVL_R h hok hrow xs ys vs e2 hr.2⟩
  ·cases e
end
theorem LEPL_R {ok : Nat → Prop} {w : World} : ∀ {xs ys : List PV} {vs : List Value}, LEPL xs ys → RPL ok w xs vs → RPL ok w ys vs
 | [], [], _, _, h => h
 | [], _ :: _, _, h, _ => h.elim
 | _ :: _, [], _, h, _ => h.elim
 | x :: xs, y :: ys, [], _, h => h.elim
 | x :: xs, y :: ys, v :: vs, h, h' => ⟨h.1 _ _ _ h'.1, LEPL_R h.2 h'.2⟩
def resRun (a : Act) : ResultVar → Sem Value
 | .tmp t => pure (a.tmps.getD t undef)
 | .cell x t => do loadVar t (← asAddr (a.tmps.getD x undef))
theorem res_run (hC : CxOk C) (h : StO C n F ok0 w0 ok β s a w) (rv : ResultVar) (hne : resSV C s rv ≠ .no) : ∃ v, (resRun a rv).run C.P w = .ok v w ∧ R ok β w (resSV C s rv) v := by
 cases rv with
 | tmp t => exact ⟨_, rfl, h.ρ t⟩
 | cell t ty =>
  simp only [resSV] at hne ⊢
  split at hne
  ·rename_i κ e
   split at hne
   ·rename_i own t' x ti eη eT
    rw [beq_ite] at hne ⊢
    split at hne
    ·rename_i ht
     subst ht
     rw [if_pos rfl]
     have hr := h.ρ t
     rw [e, R] at hr
     obtain ⟨b, h1, h2⟩ := hr
     have hob := h.η κ
     rw [eη] at hob
     obtain ⟨b', v, q1, q2, q3, q4, q5, q6, q7⟩ := hob
     rw [h1] at q1
     simp only [Value.pointer.injEq, Option.some.injEq, Addr.mk.injEq, and_true] at q1
     subst q1
     obtain ⟨g1, g2, g3⟩ := q7 ti eT
     have hcell : ∀ j u, v.cells.toList[j]? = some u → w.cell? ⟨b, j, none⟩ = some u := by
      intro j u hj
      simp only [World.cell?, q2]
      simpa using hj
     refine ⟨v, ?_, q3⟩
     have hl : (loadVar t' ⟨b, 0, none⟩).run C.P w = .ok v w := by
      cases ha : ti.agg with
      | true =>
       have := run_loadVar_agg (hC.ty _ _ eT) ha (w := w) (ad := ⟨b, 0, none⟩) (cs := v.cells.toList) (by simpa using g1) (fun j u hj => by rw [add_plain]; simpa using hcell j u hj)
       rw [this]
       congr 1
       rw [Array.toArray_toList, ← g2 ha]
      | false =>
       refine run_loadVar_one (hC.ty _ _ eT) ha (hcell 0 v ?_)
       rw [one_cells (g3 ha)]
       rfl
     simp [resRun, h2, asAddr, hl]
    ·exact absurd rfl hne
   ·exact absurd rfl hne
  ·exact absurd rfl hne
theorem frz_ne {η : Nat → AO} {x : SV} {z : PV} (h : frzV η x = some z) : x ≠ .no := by rintro rfl; simp [frzV] at h
theorem results_one {fn : Func} {rv : ResultVar} (hr : fn.results.toList = [rv]) {v : Value} (h : (resRun a rv).run C.P w = .ok v w) : (results fn a.tmps).run C.P w = .ok v w := by
 have e : fn.results = #[rv] := by apply Array.ext'; simpa using hr
 cases rv with
 | tmp t => simpa [results, e, resRun] using h
 | cell x t => simp only [resRun] at h; simp [results, e]; simpa using h
theorem mapM_run {P : Program} : ∀ {rs : List ResultVar} {vs : List Value}, (∀ (i : Nat) (rv : ResultVar), rs[i]? = some rv → ∃ v, vs[i]? = some v ∧ (resRun a rv).run P w = .ok v w) → vs.length = rs.length → (rs.mapM (resRun a)).run P w = .ok vs w
 | [], [], _, _ => by simp
 | [], _ :: _, _, h => by simp at h
 | _ :: _, [], _, h => by simp at h
 | r :: rs, v :: vs, h, hl => by
  obtain ⟨v', e, hr⟩ := h 0 r rfl
  simp at e
  subst e
  have ih := mapM_run (rs := rs) (vs := vs) (fun i rv hi => by simpa using h (i + 1) rv (by simpa using hi)) (by simpa using hl)
  simp [List.mapM_cons, hr, ih]
theorem results_many {fn : Func} {rs : List ResultVar} (hr : fn.results.toList = rs) (h1 : rs.length ≠ 1) {vs : List Value} (h : ∀ (i : Nat) (rv : ResultVar), rs[i]? = some rv → ∃ v, vs[i]? = some v ∧ (resRun a rv).run C.P w = .ok v w) (hl : vs.length = rs.length) : (results fn a.tmps).run C.P w = .ok (.tuple vs.toArray) w := by
 have e : fn.results = rs.toArray := by apply Array.ext'; simpa using hr
 have hm := mapM_run (P := C.P) h hl
 have aux : ∀ g : ResultVar → Sem Value, (∀ r, g r = resRun a r) → (do let vs ← List.toArray <$> List.mapM g rs; pure (if h : vs.size = 1 then vs[0] else Value.tuple vs) : Sem Value).run C.P w = .ok (.tuple vs.toArray) w := by
  intro g hg
  obtain rfl : g = resRun a := funext hg
  simp [hm]
  omega
 unfold results
 rw [e]
 simp only [Array.mapM_eq_mapM_toList]
 exact aux _ fun r => by cases r <;> rfl
theorem ret_sound (hC : CxOk C) {fn : Func} {rs : List ResultVar} (hrs : fn.results.toList = rs) {r : Res} (h : StO C n F ok0 w0 ok β s a w) (hF : ∀ b, ¬ F.m b) (hr : retVC C s rs r) (h0 : ∀ b, ok0 b → b < w0.heap.size) :
  ∃ v, (results fn a.tmps).run C.P w = .ok v w ∧ RES ok0 w0 w r v := by
 have hsub : ∀ b, ok b → (ok0 b ∨ w0.heap.size ≤ b ∧ b < w.heap.size) := fun b hb => by
  rcases h.new b hb with h1 | h1 | h1
  ·exact .inl h1
  ·exact absurd h1 (hF b)
  ·exact .inr ⟨h1, h.lt b hb⟩
 have hmay : ∀ b, may F w0 b → w0.heap.size ≤ b := fun b hb => hb.resolve_left (hF b)
 have hrow : ∀ κ b, (s.η κ).mine = true → (β κ).ownBlock = some b → (ok0 b ∨ w0.heap.size ≤ b ∧ b < w.heap.size) := fun κ b hm hb =>
  .inr ⟨hmay b (mine_block h hm (ownBlock_blockOf hb)).2.1, OB_lt (h.η κ) (mine_live hm) (ownBlock_blockOf hb)⟩
 unfold retVC at hr
 split at hr
 ·rename_i rv y
  obtain ⟨z, e, hle⟩ := optP_eq hr
  rw [PV.force_eq] at hle
  obtain ⟨v, g1, g2⟩ := res_run hC h rv (frz_ne e)
  exact ⟨v, results_one hrs g1, hle _ _ _ (frzV_R h hsub hrow _ z v e g2)⟩
 ·rename_i rv t sz L
  split at hr
  ·rename_i κ e
   obtain ⟨v, g1, g2⟩ := res_run hC h rv (by rw [e]; simp)
   rw [e, R] at g2
   have hr : s.η κ = .row t sz L := by
    split at hr
    ·rename_i t' sz' L' e'
     obtain ⟨rfl, rfl, rfl⟩ := hr
     exact e'
    ·exact hr.elim
   have hob := h.η κ
   rw [hr] at hob
   obtain ⟨hpos, ⟨xs, q1, q2⟩, q3⟩ := hob
   refine ⟨v, results_one hrs g1, hpos, xs, ?_, RRow_stay (fun b hb => ⟨hsub b hb, ?_⟩) (Stay.refl _ _) q2⟩
   ·rw [g2.1]
    refine ⟨q1.1, ?_⟩
    rcases q1.2 with q1 | ⟨g, cap, cur, e1, _, q1⟩
    ·exact .inl q1
    ·exact .inr ⟨g, cap, cur, e1, hmay g (q3 g (by rw [e1]; rfl)).2, q1⟩
   ·rw [g2.1]; exact fun e => (q3 b e).1 hb
  ·exact hr.elim
 ·rename_i ys
  subst hr
  refine ⟨.tuple #[], ?_, [], rfl, trivial⟩
  exact results_many hrs (by simp) (vs := []) (fun i rv hi => by simp at hi) rfl
 ·rename_i rv rv' rs' ys
  obtain ⟨zs, e, hle⟩ := optP_eq hr
  rw [PV.forceL_eq] at hle
  have key : ∀ (rs : List ResultVar) (zs : List PV), frzVL s.η (rs.map (resSV C s)) = some zs → ∃ vs, vs.length = rs.length ∧ (∀ (i : Nat) (rv : ResultVar), rs[i]? = some rv → ∃ v, vs[i]? = some v ∧ (resRun a rv).run C.P w = .ok v w) ∧ RL ok β w (rs.map (resSV C s)) vs := by
   intro rs
   induction rs with
   | nil => intro zs _; exact ⟨[], rfl, fun i rv hi => by simp at hi, trivial⟩
   | cons r rs ih =>
    intro zs e
    simp only [List.map_cons, frzVL] at e
    split at e
    ·rename_i y ys e1 e2
     obtain ⟨vs, h1, h2, h3⟩ := ih ys e2
     obtain ⟨v, g1, g2⟩ := res_run hC h r (frz_ne e1)
     refine ⟨v :: vs, by simp [h1], fun i rv hi => ?_, ⟨g2, h3⟩⟩
     cases i with
     | zero => simp at hi; subst hi; exact ⟨v, rfl, g1⟩
     | succ i => simpa using h2 i rv (by simpa using hi)
    ·cases e
  obtain ⟨vs, h1, h2, h3⟩ := key _ _ e
  exact ⟨_, results_many hrs (by simp) h2 h1, vs, rfl, LEPL_R hle (frzVL_R h hsub hrow _ _ _ e h3)⟩
 ·exact hr.elim
end
theorem PC_of_vc {C : Cx} (hC : CxOk C) (hm : C.P.follows .mixedOrders = true) {f : FuncId} {fn : Func} {c : Code} {args : List SV} {ηi : Nat → AO} {r : Res} (cfg : Cfg) (hf : C.P.funcs[f]? = some fn) (hname : (fn.name == "runtime.NumGoroutine") = false) (hb : fn.body = some c)
  (hn : (Nat.ble args.length fn.ntmps && Nat.ble fn.ntmps 2000) = true) (hok : okC fn.ntmps c = true) (hvc : vc C cfg c (endVC C fn.results.toList r) (S.init args ηi)) : PC C f ηi args r := by
 refine ⟨⟨fn, hf, hname, by rw [hb]; rfl⟩, ?_⟩
 intro ok β w vs hgx hlt hvs hobs hlive hkeys hnomine
 have hlen := RL_length hvs
 rw [Bool.and_eq_true] at hn
 have hn2 := Nat.le_of_ble_eq_true hn.2
 have hn := Nat.le_of_ble_eq_true hn.1
 refine calls_of_wp hf hb ?_
 have hinit : StO C fn.ntmps ⟨fun _ => False, β⟩ ok w ok β (S.init args ηi) { tmps := vs.toArray ++ Array.replicate (fn.ntmps - vs.toArray.size) undef, defers := [] } w :=
  {lt := hlt
   new := fun b hb => .inl hb
   old := fun b hb => hb
   gx := hgx
   defers := rfl
   size := by simp; omega
   ρ := fun t => by
    show R ok β w (args.getD t .no) _
    rw [List.getD_eq_getElem?_getD]
    cases e : args[t]? with
    | none => trivial
    | some x =>
     obtain ⟨v, hv, hr⟩ := RL_get hvs e
     have : (vs.toArray ++ Array.replicate (fn.ntmps - vs.toArray.size) undef).getD t undef = v := by
      rw [Array.getD_eq_getD_getElem?, Array.getElem?_append_left (by simpa using (List.getElem?_eq_some_iff.1 hv).1)]
      simp [hv]
     rw [this]
     exact hr
   η := fun κ => by
    have h1 := hobs κ
    show OB C ok β w _ κ (ηi κ)
    cases e : ηi κ with
    | no => trivial
    | row t sz L => have := hnomine κ; rw [e] at this; cases this
    | mp t sk L => have := hnomine κ; rw [e] at this; cases this
    | it l pos => have := hnomine κ; rw [e] at this; cases this
    | ms t0 sk0 L0 B0 c0 m0 => have := hnomine κ; rw [e] at this; cases this
    | mi κ0 m0 s0 q0 l0 => have := hnomine κ; rw [e] at this; cases this
    | fm t ks xs => have := hnomine κ; rw [e] at this; cases this
    | rp t xs => have := hnomine κ; rw [e] at this; cases this
    | var own t x =>
     rw [e] at h1
     obtain ⟨b, v, q1, q2, q3, q4, q5, q6⟩ := h1
     exact ⟨b, v, q1, q2, q3, q4, fun ho => .inr (q5 ho), q6⟩
   ro := fun κ t x b hη hb hc => by
    have := OB_lt (hobs κ) (by have : ηi κ = _ := hη; rw [this]; rfl) hb
    rcases hc with hc | hc
    ·exact hc
    ·omega
   dis := fun κ κ' b h1 _ _ _ => by
    have h1 : (ηi κ).mine = true := h1
    rw [hnomine κ] at h1
    cases h1
   wf := ⟨fun t κ hκ => by
    change κ ∈ (args.getD t .no).keys at hκ
    rw [List.getD_eq_getElem?_getD] at hκ
    cases e : args[t]? with
    | none => rw [e] at hκ; simp [SV.keys] at hκ
    | some x =>
     rw [e] at hκ
     exact hlive κ (keysL_mem (List.mem_of_getElem? e) hκ), fun t κ hκ => hkeys t κ hκ⟩
   below := Keep.refl _ _
   n2 := hn2
   pin := fun _ _ => rfl }
 refine wp_mono (vc_sound hC hm c _ _ _ _ hok hvc ⟨ok, β, hinit⟩) fun e a' w' hq => ?_
 obtain ⟨s', hq, ok', β', hs⟩ := hq
 cases e with
 | normal =>
  obtain ⟨v, h1, h2⟩ := ret_sound hC rfl hs (fun _ h => h) hq hlt
  exact ⟨hs.defers, v, h1, v, rfl, h2, ⟨hs.below.os, hs.below.tape, hs.below.output, hs.below.size, fun b hb => hs.below.block b hb fun h => h⟩⟩
 | ret =>
  obtain ⟨v, h1, h2⟩ := ret_sound hC rfl hs (fun _ h => h) hq hlt
  exact ⟨hs.defers, v, h1, v, rfl, h2, ⟨hs.below.os, hs.below.tape, hs.below.output, hs.below.size, fun b hb => hs.below.block b hb fun h => h⟩⟩
 | exit id => exact hq.elim
 | goto l => exact hq.elim
 | panic ch => exact hq.elim
 | outgrown => exact hq.elim
end Go.Vc
namespace Go.Vc
open Go Go.RowKit
theorem TyOk.of {P : Program} {t : Nat} {ti : TI} {z : Value} {d : TypeDesc} (h1 : (P.info? t).map (fun i => (i.size, i.bytes, i.zero)) = some (ti.sz, ti.bytes, some z)) (h2 : P.underlying t = some d) (h3 : cv z = .p ti.zero) (h4 : z.cells.size = ti.sz)
  (h5 : KindOk P ti d) (h6 : ti.agg = false → one z) (h7 : ti.agg = true → z = .agg z.cells) : TyOk P t ti := by
 obtain ⟨i, hi, he⟩ := Option.map_eq_some_iff.1 h1
 simp only [Prod.mk.injEq] at he
 exact ⟨i, d, z, hi, h2, he.1, he.2.1, he.2.2, h3, h4, h5, h6, h7⟩
theorem bool_rec {b : Bool} {A B : Prop} (h1 : b = true → A) (h2 : b = false → B) : Bool.rec (motive := fun _ => Prop) B A b := by
 cases b with
 | true => exact h1 rfl
 | false => exact h2 rfl
theorem LE.of {x y : SV} (h : x = y) : LE x y := h ▸ LE.refl x
theorem CallVC.pure {C : Cx} {η : Nat → AO} {f : FuncId} {args vargs : List SV} {r : Res} (args' : List SV) (h : PC C f (fun _ => .no) args' r) (hle : LEL vargs args') (hk : SV.keysL args' = []) (hs : r.scalar = true ∨ ∀ x ∈ args, noSlc x = true) : CallVC C η f args vargs r := by
 refine ⟨⟨fun _ => .no, args', hle, h, ?_, ?_, ?_, hs⟩⟩
 ·intro κ; exact .inl rfl
 ·intro κ hκ; rw [hk] at hκ; cases hκ
 ·intro κ κ' hκ; simp [AO.keys] at hκ
end Go.Vc
namespace Go.Vc
open Go Go.RowKit
def injB (g : Nat → Nat) (l : List Nat) : Bool := l.all fun a => l.all fun b => !(Nat.beq (g a) (g b)) || Nat.beq a b
theorem injB_spec {g : Nat → Nat} {l : List Nat} (h : injB g l = true) {a b : Nat} (ha : a ∈ l) (hb : b ∈ l) (e : g a = g b) : a = b := by
 unfold injB at h
 rw [List.all_eq_true] at h
 have := h a ha
 rw [List.all_eq_true] at this
 have := this b hb
 rw [e] at this
 simpa using this
def GeI (s : S) (g : Nat → Nat) : List (Nat × AO) → Prop
 | [] => True
 | (κ, o) :: r => (s.η (g κ)).force fun a => OLM a (o.ren g) ∧ GeI s g r
theorem GeI.get {s : S} {g : Nat → Nat} : ∀ {l : List (Nat × AO)}, GeI s g l → ∀ κ, OLM (s.η (g κ)) ((lookO l κ).ren g)
 | [], _, κ => .inl rfl
 | (k, o) :: r, h, κ => by
  rw [GeI, AO.force_eq] at h
  simp only [lookO]
  rw [beq_ite]
  split
  ·rename_i e; rw [e]; exact h.1
  ·exact GeI.get h.2 κ
def chkM (s : S) (g : Nat → Nat) (I O : List (Nat × AO)) : Bool :=
 injB g (I.map (·.1) ++ O.map (·.1)) && O.all (fun y => (lookO I y.1).live || (!(s.η (g y.1)).live && Nat.blt (g y.1) 2000)) && I.all (fun y => Nat.ble 2000 y.1 || Nat.blt (g y.1) 2000)
theorem MCallVC.pr {C : Cx} {s : S} {f : FuncId} {args args0 : List SV} {d : Nat} {I O : List (Nat × AO)} {x : SV} (g : Nat → Nat) (h : PM C f I args0 O x) (hle : LEL args (SV.renL g args0)) (hI : GeI s g I) (hc : chkM s g I O = true) :
  MCallVC C s f args d (mAfter s g I O d x) := by
 unfold chkM at hc
 simp only [Bool.and_eq_true, List.all_eq_true] at hc
 obtain ⟨⟨h1, h2⟩, h3⟩ := hc
 have hmem : ∀ κ, ((lookO I κ).live || (lookO O κ).live) = true → κ ∈ I.map (·.1) ++ O.map (·.1) := fun κ hκ => by
  rw [List.mem_append]
  rw [Bool.or_eq_true] at hκ
  rcases hκ with hκ | hκ
  ·exact .inl (List.mem_map.2 ⟨_, lookO_in hκ, rfl⟩)
  ·exact .inr (List.mem_map.2 ⟨_, lookO_in hκ, rfl⟩)
 refine ⟨I, args0, O, x, g, h, hle, hI.get, fun κ κ' hκ hκ' e => injB_spec h1 (hmem κ hκ) (hmem κ' hκ') e, fun κ hκ hi => ?_, fun κ hκ hlt => ?_, rfl⟩
 ·have := h2 _ (lookO_in hκ)
  simp only [hi, Bool.false_or, Bool.and_eq_true, Bool.not_eq_true', Nat.blt_eq] at this
  exact this
 ·have := h3 _ (lookO_in hκ)
  simp only [Bool.or_eq_true, Nat.ble_eq, Nat.blt_eq] at this
  omega
theorem MCallVC0.pr {C : Cx} {q : Bool} {s : S} {f : FuncId} {args args0 : List SV} {d : Nat} {I O : List (Nat × AO)} {x : SV} (g : Nat → Nat) (h : PM C f I args0 O x) (hle : LEL args (SV.renL g args0)) (hI : GeI s g I) (hc : chkM s g I O = true) (hm : movers g I = []) (hq : (!q || O.all fun y => Nat.ble 1000 (g y.1)) = true) :
  MCallVC0 C q s f args d (mAfter s g I O d x) := by
 unfold chkM at hc
 simp only [Bool.and_eq_true, List.all_eq_true] at hc
 obtain ⟨⟨h1, h2⟩, h3⟩ := hc
 have hmem : ∀ κ, ((lookO I κ).live || (lookO O κ).live) = true → κ ∈ I.map (·.1) ++ O.map (·.1) := fun κ hκ => by
  rw [List.mem_append]
  rw [Bool.or_eq_true] at hκ
  rcases hκ with hκ | hκ
  ·exact .inl (List.mem_map.2 ⟨_, lookO_in hκ, rfl⟩)
  ·exact .inr (List.mem_map.2 ⟨_, lookO_in hκ, rfl⟩)
 refine ⟨I, args0, O, x, g, h, hle, hI.get, fun κ κ' hκ hκ' e => injB_spec h1 (hmem κ hκ) (hmem κ' hκ') e, fun κ hκ hi => ?_, fun κ hκ hlt => ?_, rfl, hm, hq⟩
 ·have := h2 _ (lookO_in hκ)
  simp only [hi, Bool.false_or, Bool.and_eq_true, Bool.not_eq_true', Nat.blt_eq] at this
  exact this
 ·have := h3 _ (lookO_in hκ)
  simp only [Bool.or_eq_true, Nat.ble_eq, Nat.blt_eq] at this
  omega
def retL (C : Cx) (s : S) : List ResultVar → List SV → Prop
 | [], [] => True
 | rv :: rs, x :: xs => (resSV C s rv).force fun y => y.shape.isSome = true ∧ LE y x ∧ retL C s rs xs
 | _, _ => False
theorem retL_run {C : Cx} {n : Nat} {F : Fm} {ok0 : Nat → Prop} {w0 : World} {ok : Nat → Prop} {β : Nat → Value} {s : S} {a : Act} {w : World} (hC : CxOk C) (h : StO C n F ok0 w0 ok β s a w) :
  ∀ {rs : List ResultVar} {xs : List SV}, retL C s rs xs → ∃ vs, vs.length = rs.length ∧ (∀ (i : Nat) (rv : ResultVar), rs[i]? = some rv → ∃ v, vs[i]? = some v ∧ (resRun a rv).run C.P w = .ok v w) ∧ RL ok β w xs vs
 | [], [], _ => ⟨[], rfl, fun i rv hi => by simp at hi, trivial⟩
 | [], _ :: _, hr => hr.elim
 | _ :: _, [], hr => hr.elim
 | rv :: rs, x :: xs, hr => by
  rw [retL, SV.force_eq] at hr
  obtain ⟨v, g1, g2⟩ := res_run hC h rv (fun hc => by have := hr.1; rw [hc] at this; cases this)
  obtain ⟨vs, e1, e2, e3⟩ := retL_run hC h hr.2.2
  refine ⟨v :: vs, by rw [List.length_cons, List.length_cons, e1], fun i rv' hi => ?_, hr.2.1 _ _ _ _ g2, e3⟩
  cases i with
  | zero =>
   simp only [List.getElem?_cons_zero, Option.some.injEq] at hi
   subst hi
   exact ⟨v, rfl, g1⟩
  | succ i => exact e2 i rv' (by simpa using hi)
def retM (C : Cx) (s : S) (rs : List ResultVar) (I O : List (Nat × AO)) (x : SV) : Prop :=
 ∃ g : Nat → Nat, (match rs with
  | [] => x = .tupS []
  | [rv] => (resSV C s rv).force fun y => y.shape.isSome = true ∧ LE y (x.ren g)
  | rs => match x.ren g with
   | .tupS xs => retL C s rs xs
   | _ => False) ∧ GeI s g O ∧ I.all (fun y => !(Nat.ble 2000 y.1) || Nat.beq (g y.1) y.1) = true ∧ injB g (O.map (·.1)) = true
def endM (C : Cx) (rs : List ResultVar) (I O : List (Nat × AO)) (x : SV) : Exit → S → Prop
 | .normal, s => retM C s rs I O x
 | .ret, s => retM C s rs I O x
 | _, _ => False
theorem retM_sound {C : Cx} {n : Nat} {w0 : World} {ok0 : Nat → Prop} {ok : Nat → Prop} {β β0 : Nat → Value} {s : S} {a : Act} {w : World} (hC : CxOk C) {fn : Func} {I O : List (Nat × AO)} {args : List SV} {x : SV} (hst : okM I args O x = true)
  (h : StO C n ⟨mblk I β0, β0⟩ ok0 w0 ok β s a w) (hr : retM C s fn.results.toList I O x) (h0 : ∀ b, ok0 b → b < w0.heap.size) :
  ∃ v β' ok', (results fn a.tmps).run C.P w = .ok v w ∧ MRes C I O x ok0 β0 w0 ok' β' w v := by
 obtain ⟨g, hv, hO, hg, hinj⟩ := hr
 simp only [okM, Bool.and_eq_true, List.all_eq_true] at hst
 obtain ⟨⟨⟨⟨t1, t2⟩, t3⟩, t4⟩, t5⟩ := hst
 have hOmine : ∀ κ, (lookO O κ).live = true → (lookO O κ).mine = true := fun κ hl => (t3 _ (lookO_in hl)).1
 have hval : ∃ v, (results fn a.tmps).run C.P w = .ok v w ∧ R ok β w (x.ren g) v := by
  split at hv
  ·rename_i e
   subst hv
   refine ⟨.tuple #[], results_many e (by simp) (vs := []) (fun i rv hi => by simp at hi) rfl, ?_⟩
   simp only [SV.ren, SV.renL, R]
   exact ⟨[], rfl, trivial⟩
  ·rename_i rv e
   rw [SV.force_eq] at hv
   obtain ⟨v, g1, g2⟩ := res_run hC h rv (fun hc => by have := hv.1; rw [hc] at this; cases this)
   exact ⟨v, results_one e g1, hv.2 _ _ _ _ g2⟩
  ·rename_i hne1 hne2
   split at hv
   ·rename_i xs ex
    obtain ⟨vs, e1, e2, e3⟩ := retL_run hC h hv
    refine ⟨_, results_many rfl (fun hl => ?_) e2 e1, ?_⟩
    ·obtain ⟨rv, he⟩ := List.length_eq_one_iff.1 hl
     exact hne2 rv he
    ·rw [ex, R]
     exact ⟨vs, rfl, e3⟩
   ·exact hv.elim
 obtain ⟨v, hrun, hR⟩ := hval
 refine ⟨v, fun k => β (g k), ok, hrun, ?_⟩
 exact
  {ok1 := h.old
   ok2 := h.lt
   ok3 := fun b hb => h.new b hb
   val := (R_ren x v).1 hR
   obs := fun κ => (OB_ren (lookO O κ)).1 (OB_less (hO.get κ) (h.η (g κ)))
   dis := fun κ κ' b h1 h2 h3 h4 => by
    have m1 := (hO.get κ).mine (by rw [AO.ren_mine]; exact hOmine κ h1)
    have m2 := (hO.get κ').mine (by rw [AO.ren_mine]; exact hOmine κ' h2)
    exact injB_spec hinj (List.mem_map.2 ⟨_, lookO_in h1, rfl⟩) (List.mem_map.2 ⟨_, lookO_in h2, rfl⟩) (h.dis _ _ b m1 m2 h3 h4)
   pin := fun κ hκ hl => by
    rw [List.all_eq_true] at hg
    have := hg _ (lookO_in hl)
    rw [Nat.ble_eq_true_of_le hκ] at this
    have e : g κ = κ := by simpa using this
    show β (g κ) = β0 κ
    rw [e]
    exact h.pin κ hκ
   keep := ⟨h.below.os, h.below.tape, h.below.output, h.below.size, h.below.block⟩ }
theorem PM_of_vc {C : Cx} (hC : CxOk C) (hm : C.P.follows .mixedOrders = true) {f : FuncId} {fn : Func} {c : Code} {args : List SV} {I O : List (Nat × AO)} {x : SV} (cfg : Cfg) (hf : C.P.funcs[f]? = some fn) (hname : (fn.name == "runtime.NumGoroutine") = false) (hb : fn.body = some c)
  (hn : (Nat.ble args.length fn.ntmps && Nat.ble fn.ntmps 2000) = true) (hok : okC fn.ntmps c = true) (hst : okM I args O x = true) (hvc : vc C cfg c (endM C fn.results.toList I O x) (S.init args (lookO I))) : PM C f I args O x := by
 refine ⟨⟨fn, hf, hname, by rw [hb]; rfl⟩, hst, ?_⟩
 intro ok β w vs hgx hlt hvs hobs hdis
 have hlen := RL_length hvs
 rw [Bool.and_eq_true] at hn
 have hn2 := Nat.le_of_ble_eq_true hn.2
 have hn := Nat.le_of_ble_eq_true hn.1
 have hst' := hst
 simp only [okM, Bool.and_eq_true, List.all_eq_true] at hst'
 obtain ⟨⟨⟨⟨t1, t2⟩, t3⟩, t4⟩, t5⟩ := hst'
 refine calls_of_wp hf hb ?_
 have hinit : StO C fn.ntmps ⟨mblk I β, β⟩ ok w ok β (S.init args (lookO I)) { tmps := vs.toArray ++ Array.replicate (fn.ntmps - vs.toArray.size) undef, defers := [] } w :=
  {lt := hlt
   new := fun b hb => .inl hb
   old := fun b hb => hb
   gx := hgx
   defers := rfl
   size := by simp; omega
   ρ := fun t => by
    show R ok β w (args.getD t .no) _
    rw [List.getD_eq_getElem?_getD]
    cases e : args[t]? with
    | none => trivial
    | some x =>
     obtain ⟨v, hv, hr⟩ := RL_get hvs e
     have : (vs.toArray ++ Array.replicate (fn.ntmps - vs.toArray.size) undef).getD t undef = v := by
      rw [Array.getD_eq_getD_getElem?, Array.getElem?_append_left (by simpa using (List.getElem?_eq_some_iff.1 hv).1)]
      simp [hv]
     rw [this]
     exact hr
   η := fun κ => by
    have h1 := hobs κ
    show OB C ok β w _ κ (lookO I κ)
    have hM : ∀ b, (lookO I κ).mine = true → blockOf (β κ) = some b → may ⟨mblk I β, β⟩ w b := fun b h2 h3 => .inl ⟨κ, h2, h3⟩
    cases e : lookO I κ with
    | no => trivial
    | var own t x =>
     rw [e] at h1 hM
     obtain ⟨b, v, q1, q2, q3, q4, q5, q6⟩ := h1
     exact ⟨b, v, q1, q2, q3, q4, fun ho => hM b ho (by rw [q1]; rfl), q6⟩
    | ms t sk L B c r =>
     rw [e] at h1 hM
     obtain ⟨es, q1, q2, q3, q4, q5⟩ := h1
     exact ⟨es, q1, q2, q3, hM r rfl (by rw [q1]; rfl), q5⟩
    | mi κ0 m since seen last =>
     rw [e] at h1 hM
     obtain ⟨r, q1, q2, q3, q4⟩ := h1
     exact ⟨r, q1, q2, q3, hM r rfl (by rw [q1]; rfl)⟩
    | it l pos =>
     rw [e] at h1 hM
     obtain ⟨r, q1, q2, q3, q4⟩ := h1
     exact ⟨r, q1, q2, q3, hM r rfl (by rw [q1]; rfl)⟩
    | mp t sk L =>
     rw [e] at h1 hM
     obtain ⟨r, es, clock, q1, q2, q3, q4, q5⟩ := h1
     exact ⟨r, es, clock, q1, q2, q3, hM r rfl (by rw [q1]; rfl), q5⟩
    | fm t ks xs =>
     rw [e] at h1 hM
     obtain ⟨r, es, clock, q1, q2, q3, q4, q5⟩ := h1
     exact ⟨r, es, clock, q1, q2, q3, hM r rfl (by rw [q1]; rfl), q5⟩
    | rp t xs =>
     rw [e] at h1 hM
     obtain ⟨q1, q2⟩ := h1
     exact ⟨q1, fun k hk => ⟨(q2 k hk).1, hM k rfl (ownBlock_blockOf hk)⟩⟩
    | row t sz L =>
     rw [e] at h1 hM
     obtain ⟨q1, q2, q3⟩ := h1
     exact ⟨q1, q2, fun k hk => ⟨(q3 k hk).1, hM k rfl (ownBlock_blockOf hk)⟩⟩
   ro := fun κ t x b hη hb hc => by
    have hη : lookO I κ = .var false t x := hη
    have hlv := OB_lt (hobs κ) (by rw [hη]; rfl) hb
    rcases hc with ⟨κ', h1, h2⟩ | hc
    ·have := hdis κ' κ b h1 (by rw [hη]; rfl) h2 hb
     rw [this, hη] at h1
     cases h1
    ·omega
   dis := fun κ κ' b h1 h2 h3 h4 => hdis κ κ' b h1 (mine_live h2) h3 h4
   wf := ⟨fun t κ hκ => by
    change κ ∈ (args.getD t .no).keys at hκ
    rw [List.getD_eq_getElem?_getD] at hκ
    cases e : args[t]? with
    | none => rw [e] at hκ; simp [SV.keys] at hκ
    | some x =>
     rw [e] at hκ
     exact t1 κ (keysL_mem (List.mem_of_getElem? e) hκ), fun t κ hκ => by
    change κ ∈ (lookO I t).keys at hκ
    have hl : (lookO I t).live = true := by
     cases e : lookO I t with
     | no => rw [e] at hκ; cases hκ
     | _ => rfl
    exact (t2 _ (lookO_in hl)).1.2 κ hκ⟩
   below := Keep.refl _ _
   n2 := hn2
   pin := fun _ _ => rfl }
 refine wp_mono (vc_sound hC hm c _ _ _ _ hok hvc ⟨ok, β, hinit⟩) fun e a' w' hq => ?_
 obtain ⟨s', hq, ok', β', hs⟩ := hq
 cases e with
 | normal =>
  obtain ⟨v, β2, ok2, h1, h2⟩ := retM_sound hC hst hs hq hlt
  exact ⟨hs.defers, v, h1, v, β2, ok2, rfl, h2⟩
 | ret =>
  obtain ⟨v, β2, ok2, h1, h2⟩ := retM_sound hC hst hs hq hlt
  exact ⟨hs.defers, v, h1, v, β2, ok2, rfl, h2⟩
 | exit id => exact hq.elim
 | goto l => exact hq.elim
 | panic ch => exact hq.elim
 | outgrown => exact hq.elim
end Go.Vc
