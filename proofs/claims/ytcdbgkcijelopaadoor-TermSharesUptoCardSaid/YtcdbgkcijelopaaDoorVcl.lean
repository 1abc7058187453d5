/- A calculus of verification conditions, part 17b: contracts of functions that write to objects. -/
import Derived.Test.YtcdbgkcijelopaaDoorVcg
set_option linter.unusedVariables false
namespace Go.Vc
open Go Go.RowKit

def injB (g : Nat → Nat) (l : List Nat) : Bool := l.all fun a => l.all fun b => !(Nat.beq (g a) (g b)) || Nat.beq a b
theorem injB_spec {g : Nat → Nat} {l : List Nat} (h : injB g l = true) {a b : Nat} (ha : a ∈ l) (hb : b ∈ l) (e : g a = g b) : a = b := by
  unfold injB at h
  rw [List.all_eq_true] at h
  have := h a ha
  rw [List.all_eq_true] at this
  have := this b hb
  rw [e] at this
  simpa using this
/-- The objects stand as the contract wants them. -/
def GeI (s : S) (g : Nat → Nat) : List (Nat × AO) → Prop
  | [] => True
  | (κ, o) :: r => (s.η (g κ)).force fun a => OLM a (o.ren g) ∧ GeI s g r
theorem GeI.get {s : S} {g : Nat → Nat} : ∀ {l : List (Nat × AO)}, GeI s g l → ∀ κ, OLM (s.η (g κ)) ((lookO l κ).ren g)
  | [], _, κ => .inl rfl
  | (k, o) :: r, h, κ => by
    rw [GeI, AO.force_eq] at h
    simp only [lookO]
    rw [beq_ite]
    split
    · rename_i e; rw [e]; exact h.1
    · exact GeI.get h.2 κ
/-- Do the names fit? -/
def chkM (s : S) (g : Nat → Nat) (I O : List (Nat × AO)) : Bool :=
  injB g (I.map (·.1) ++ O.map (·.1)) && O.all (fun y => (lookO I y.1).live || (!(s.η (g y.1)).live && Nat.blt (g y.1) 2000)) && I.all (fun y => Nat.ble 2000 y.1 || Nat.blt (g y.1) 2000)
theorem MCallVC.pr {C : Cx} {s : S} {f : FuncId} {args args0 : List SV} {d : Nat} {I O : List (Nat × AO)} {x : SV} (g : Nat → Nat) (h : PM C f I args0 O x) (hle : LEL args (SV.renL g args0)) (hI : GeI s g I) (hc : chkM s g I O = true) :
    MCallVC C s f args d (mAfter s g I O d x) := by
  unfold chkM at hc
  simp only [Bool.and_eq_true, List.all_eq_true] at hc
  obtain ⟨⟨h1, h2⟩, h3⟩ := hc
  have hmem : ∀ κ, ((lookO I κ).live || (lookO O κ).live) = true → κ ∈ I.map (·.1) ++ O.map (·.1) := fun κ hκ => by
    rw [List.mem_append]
    rw [Bool.or_eq_true] at hκ
    rcases hκ with hκ | hκ
    · exact .inl (List.mem_map.2 ⟨_, lookO_in hκ, rfl⟩)
    · exact .inr (List.mem_map.2 ⟨_, lookO_in hκ, rfl⟩)
  refine ⟨I, args0, O, x, g, h, hle, hI.get, fun κ κ' hκ hκ' e => injB_spec h1 (hmem κ hκ) (hmem κ' hκ') e, fun κ hκ hi => ?_, fun κ hκ hlt => ?_, rfl⟩
  · have := h2 _ (lookO_in hκ)
    simp only [hi, Bool.false_or, Bool.and_eq_true, Bool.not_eq_true', Nat.blt_eq] at this
    exact this
  · have := h3 _ (lookO_in hκ)
    simp only [Bool.or_eq_true, Nat.ble_eq, Nat.blt_eq] at this
    omega

/-- What a function leaves, in a walk's last state. -/
def retM (C : Cx) (s : S) (rs : List ResultVar) (I O : List (Nat × AO)) (x : SV) : Prop :=
  ∃ g : Nat → Nat, (match rs with
    | [] => x = .tupS []
    | [rv] => (resSV C s rv).force fun y => y.shape.isSome = true ∧ LE y (x.ren g)
    | _ => False) ∧ GeI s g O ∧ I.all (fun y => !(Nat.ble 2000 y.1) || Nat.beq (g y.1) y.1) = true ∧ injB g (O.map (·.1)) = true
def endM (C : Cx) (rs : List ResultVar) (I O : List (Nat × AO)) (x : SV) : Exit → S → Prop
  | .normal, s => retM C s rs I O x
  | .ret, s => retM C s rs I O x
  | _, _ => False
theorem retM_sound {C : Cx} {n : Nat} {w0 : World} {ok0 : Nat → Prop} {ok : Nat → Prop} {β β0 : Nat → Value} {s : S} {a : Act} {w : World} (hC : CxOk C) {fn : Func} {I O : List (Nat × AO)} {args : List SV} {x : SV} (hst : okM I args O x = true)
    (h : StO C n ⟨mblk I β0, β0⟩ ok0 w0 ok β s a w) (hr : retM C s fn.results.toList I O x) (h0 : ∀ b, ok0 b → b < w0.heap.size) :
    ∃ v β' ok', (results fn a.tmps).run C.P w = .ok v w ∧ MRes C I O x ok0 β0 w0 ok' β' w v := by
  obtain ⟨g, hv, hO, hg, hinj⟩ := hr
  simp only [okM, Bool.and_eq_true, List.all_eq_true] at hst
  obtain ⟨⟨⟨⟨t1, t2⟩, t3⟩, t4⟩, t5⟩ := hst
  have hOmine : ∀ κ, (lookO O κ).live = true → (lookO O κ).mine = true := fun κ hl => (t3 _ (lookO_in hl)).1
  have hval : ∃ v, (results fn a.tmps).run C.P w = .ok v w ∧ R ok β w (x.ren g) v := by
    split at hv
    · rename_i e
      subst hv
      refine ⟨.tuple #[], results_many e (by simp) (vs := []) (fun i rv hi => by simp at hi) rfl, ?_⟩
      simp only [SV.ren, SV.renL, R]
      exact ⟨[], rfl, trivial⟩
    · rename_i rv e
      rw [SV.force_eq] at hv
      obtain ⟨v, g1, g2⟩ := res_run hC h rv (fun hc => by have := hv.1; rw [hc] at this; cases this)
      exact ⟨v, results_one e g1, hv.2 _ _ _ _ g2⟩
    · exact hv.elim
  obtain ⟨v, hrun, hR⟩ := hval
  refine ⟨v, fun k => β (g k), ok, hrun, ?_⟩
  exact
    { ok1 := h.old
      ok2 := h.lt
      ok3 := fun b hb => h.new b hb
      val := (R_ren x v).1 hR
      obs := fun κ => (OB_ren (lookO O κ)).1 (OB_less (hO.get κ) (h.η (g κ)))
      dis := fun κ κ' b h1 h2 h3 h4 => by
        have m1 := (hO.get κ).mine (by rw [AO.ren_mine]; exact hOmine κ h1)
        have m2 := (hO.get κ').mine (by rw [AO.ren_mine]; exact hOmine κ' h2)
        exact injB_spec hinj (List.mem_map.2 ⟨_, lookO_in h1, rfl⟩) (List.mem_map.2 ⟨_, lookO_in h2, rfl⟩) (h.dis _ _ b m1 m2 h3 h4)
      pin := fun κ hκ hl => by
        rw [List.all_eq_true] at hg
        have := hg _ (lookO_in hl)
        rw [Nat.ble_eq_true_of_le hκ] at this
        have e : g κ = κ := by simpa using this
        show β (g κ) = β0 κ
        rw [e]
        exact h.pin κ hκ
      keep := ⟨h.below.os, h.below.tape, h.below.output, h.below.size, h.below.block⟩ }
/-- A CONTRACT of a function that writes to objects, out of the conditions over its code. -/
theorem PM_of_vc {C : Cx} (hC : CxOk C) (hm : C.P.follows .mixedOrders = true) {f : FuncId} {fn : Func} {c : Code} {args : List SV} {I O : List (Nat × AO)} {x : SV} (cfg : Cfg) (hf : C.P.funcs[f]? = some fn) (hname : (fn.name == "runtime.NumGoroutine") = false) (hb : fn.body = some c)
    (hn : (Nat.ble args.length fn.ntmps && Nat.ble fn.ntmps 2000) = true) (hok : okC fn.ntmps c = true) (hst : okM I args O x = true) (hvc : vc C cfg c (endM C fn.results.toList I O x) (S.init args (lookO I))) : PM C f I args O x := by
  refine ⟨⟨fn, hf, hname, by rw [hb]; rfl⟩, hst, ?_⟩
  intro ok β w vs hgx hlt hvs hobs hdis
  have hlen := RL_length hvs
  rw [Bool.and_eq_true] at hn
  have hn2 := Nat.le_of_ble_eq_true hn.2
  have hn := Nat.le_of_ble_eq_true hn.1
  have hst' := hst
  simp only [okM, Bool.and_eq_true, List.all_eq_true] at hst'
  obtain ⟨⟨⟨⟨t1, t2⟩, t3⟩, t4⟩, t5⟩ := hst'
  refine calls_of_wp hf hb ?_
  have hinit : StO C fn.ntmps ⟨mblk I β, β⟩ ok w ok β (S.init args (lookO I)) { tmps := vs.toArray ++ Array.replicate (fn.ntmps - vs.toArray.size) undef, defers := [] } w :=
    { lt := hlt
      new := fun b hb => .inl hb
      old := fun b hb => hb
      gx := hgx
      defers := rfl
      size := by simp; omega
      ρ := fun t => by
        show R ok β w (args.getD t .no) _
        rw [List.getD_eq_getElem?_getD]
        cases e : args[t]? with
        | none => trivial
        | some x =>
          obtain ⟨v, hv, hr⟩ := RL_get hvs e
          have : (vs.toArray ++ Array.replicate (fn.ntmps - vs.toArray.size) undef).getD t undef = v := by
            rw [Array.getD_eq_getD_getElem?, Array.getElem?_append_left (by simpa using (List.getElem?_eq_some_iff.1 hv).1)]
            simp [hv]
          rw [this]
          exact hr
      η := fun κ => by
        have h1 := hobs κ
        show OB C ok β w _ κ (lookO I κ)
        have hM : ∀ b, (lookO I κ).mine = true → blockOf (β κ) = some b → may ⟨mblk I β, β⟩ w b := fun b h2 h3 => .inl ⟨κ, h2, h3⟩
        cases e : lookO I κ with
        | no => trivial
        | var own t x =>
          rw [e] at h1 hM
          obtain ⟨b, v, q1, q2, q3, q4, q5, q6⟩ := h1
          exact ⟨b, v, q1, q2, q3, q4, fun ho => hM b ho (by rw [q1]; rfl), q6⟩
        | mp t sk L =>
          rw [e] at h1 hM
          obtain ⟨r, es, clock, q1, q2, q3, q4, q5⟩ := h1
          exact ⟨r, es, clock, q1, q2, q3, hM r rfl (by rw [q1]; rfl), q5⟩
        | row t sz L =>
          rw [e] at h1 hM
          obtain ⟨q1, q2, q3⟩ := h1
          exact ⟨q1, q2, fun k hk => ⟨(q3 k hk).1, hM k rfl (ownBlock_blockOf hk)⟩⟩
      ro := fun κ t x b hη hb hc => by
        have hη : lookO I κ = .var false t x := hη
        have hlv := OB_lt (hobs κ) (by rw [hη]; rfl) hb
        rcases hc with ⟨κ', h1, h2⟩ | hc
        · have := hdis κ' κ b h1 (by rw [hη]; rfl) h2 hb
          rw [this, hη] at h1
          cases h1
        · omega
      dis := fun κ κ' b h1 h2 h3 h4 => hdis κ κ' b h1 (mine_live h2) h3 h4
      wf := ⟨fun t κ hκ => by
        change κ ∈ (args.getD t .no).keys at hκ
        rw [List.getD_eq_getElem?_getD] at hκ
        cases e : args[t]? with
        | none => rw [e] at hκ; simp [SV.keys] at hκ
        | some x =>
          rw [e] at hκ
          exact t1 κ (keysL_mem (List.mem_of_getElem? e) hκ), fun t κ hκ => by
        change κ ∈ (lookO I t).keys at hκ
        have hl : (lookO I t).live = true := by
          cases e : lookO I t with
          | no => rw [e] at hκ; cases hκ
          | _ => rfl
        exact (t2 _ (lookO_in hl)).1.2 κ hκ⟩
      below := Keep.refl _ _
      n2 := hn2
      pin := fun _ _ => rfl }
  refine wp_mono (vc_sound hC hm c _ _ _ _ hok hvc ⟨ok, β, hinit⟩) fun e a' w' hq => ?_
  obtain ⟨s', hq, ok', β', hs⟩ := hq
  cases e with
  | normal =>
    obtain ⟨v, β2, ok2, h1, h2⟩ := retM_sound hC hst hs hq hlt
    exact ⟨hs.defers, v, h1, v, β2, ok2, rfl, h2⟩
  | ret =>
    obtain ⟨v, β2, ok2, h1, h2⟩ := retM_sound hC hst hs hq hlt
    exact ⟨hs.defers, v, h1, v, β2, ok2, rfl, h2⟩
  | exit id => exact hq.elim
  | goto l => exact hq.elim
  | panic ch => exact hq.elim
  | outgrown => exact hq.elim
end Go.Vc
