/- A calculus of verification conditions, part 15: over code; a function's contract. -/
import Derived.Test.YtcdbgkcijelopaaDoorVcm
set_option linter.unusedVariables false
namespace Go.Vc
open Go Go.RowKit

def okC (n : Nat) : Code → Bool
  | .region _ ops _ => ops.toList.all fun o => match o.dst with | some d => Nat.blt d n | none => true
  | .seq a b => okC n a && okC n b
  | .cond _ a b => okC n a && okC n b
  | .block _ c => okC n c
  | .loop c => okC n c
  | _ => true

section
variable {C : Cx} {cfg : Cfg} {n : Nat} {F : Fm} {ok0 : Nat → Prop} {w0 : World}

theorem region_sound (hC : CxOk C) {id : Nat} {ops : Array Oper} {Kp : S → Prop} {s : S} (hds : ∀ o ∈ ops.toList, ∀ d, o.dst = some d → d < n) (hvc : vcOps C cfg.own [] ops ops.toList Kp s) {a : Act} {w : World} (h : St C n F ok0 w0 s a w) {Q : Exit → Act → World → Prop}
    (hQ : ∀ s a w, Kp s → St C n F ok0 w0 s a w → Q .normal a w) : (Code.region id ops false).wp C.P Q a w :=
  wp_region_list (ops_sound hC ops.toList Kp s hds hvc a w (Inv.nil s) h fun s a w hk _ hs => hQ s a w hk hs)
theorem draw_sound (hC : CxOk C) (hm : C.P.follows .mixedOrders = true) {id : Nat} {ops : Array Oper} {Kp : S → Prop} {s : S} (hds : ∀ o ∈ ops.toList, ∀ d, o.dst = some d → d < n) {P : List Nat} (hi : indep cfg.own P ops = true) (hI : Inv P s) (hvc : vcOps C cfg.own P ops ops.toList Kp s) {a : Act} {w : World} (h : St C n F ok0 w0 s a w) {Q : Exit → Act → World → Prop}
    (hQ : ∀ s a w, Kp s → St C n F ok0 w0 s a w → Q .normal a w) : (Code.region id ops true).wp C.P Q a w := by
  refine wp_region_any hm ?_
  have hrem : rem ops (Array.replicate ops.size false) = ops.toList.zipIdx := by
    unfold rem
    refine List.filter_eq_self.2 fun y hy => ?_
    obtain ⟨_, h2, _⟩ := List.mem_zipIdx hy
    have : y.2 < ops.size := by simpa using h2
    simp [this]
  obtain ⟨ok, β, h⟩ := h
  have h' : StO C n F ok0 w0 ok β s a { w with drawn := w.drawn + 1 } := h.world hC (ok' := ok) ⟨h.below.os, h.below.tape, h.below.output, h.below.size, fun b hb hm => h.below.block b hb hm⟩ (Nat.le_refl _) (fun b _ _ => rfl) (fun _ h => h) (fun _ h => .inl h)
  refine draw_go (own := cfg.own) hC hds hi hQ ops.size _ s a _ (by simp) ?_ ?_ hI ⟨ok, β, h'⟩ ?_
  · intro i o ho hl
    exfalso
    have : i < ops.size := (Array.getElem?_eq_some_iff.1 ho).1
    simp [this] at hl
  · rw [hrem]; simp
  · rw [hrem]
    simpa using hvc

theorem drawT_sound (hC : CxOk C) (hm : C.P.follows .mixedOrders = true) {id : Nat} {ops : Array Oper} {Kp : S → Prop} {s : S} (hds : ∀ o ∈ ops.toList, ∀ d, o.dst = some d → d < n) {P : List Nat} {b : List Nat} {t : Tr} (hi : treeOk cfg.own P ops b t = true) (hI : Inv P s) (hvc : vcTr C cfg.own P ops t Kp s) {a : Act} {w : World} (h : St C n F ok0 w0 s a w) {Q : Exit → Act → World → Prop}
    (hQ : ∀ s a w, Kp s → St C n F ok0 w0 s a w → Q .normal a w) : (Code.region id ops true).wp C.P Q a w := by
  refine wp_region_any hm ?_
  unfold treeOk at hi
  rw [Bool.and_eq_true, Bool.and_eq_true, List.all_eq_true] at hi
  obtain ⟨⟨h1, hb⟩, h2⟩ := hi
  have hb := eqL_eq hb
  subst hb
  have hlen : (masks ops.toList []).length = ops.size := by
    have key : ∀ (l : List Oper) (acc : List Nat), (masks l acc).length = acc.length + l.length := by
      intro l
      induction l with
      | nil => intro acc; simp [masks]
      | cons o l ih => intro acc; simp only [masks, ih, List.length_append, List.length_cons, List.length_nil]; omega
    rw [key]
    simp
  rw [hlen] at h2
  obtain ⟨ok, β, h⟩ := h
  have h' : StO C n F ok0 w0 ok β s a { w with drawn := w.drawn + 1 } := h.world hC (ok' := ok) ⟨h.below.os, h.below.tape, h.below.output, h.below.size, fun b hb hm => h.below.block b hb hm⟩ (Nat.le_refl _) (fun b _ _ => rfl) (fun _ h => h) (fun _ h => .inl h)
  refine draw_tr (own := cfg.own) hC hds (fun i o ho e he hb => ?_) hQ ops.size _ (List.range ops.size) t s a _ (by simp) ?_ List.nodup_range ?_ (by simp) hI ⟨ok, β, h'⟩ h2 hvc
  · have := h1 (o, i) (by rw [List.mk_mem_zipIdx_iff_getElem?]; simpa using ho)
    simp only [Bool.and_eq_true, List.all_eq_true] at this
    have := this.1 e he
    simpa [hb, Nat.blt_eq] using this
  · intro i o ho hl
    exfalso
    have : i < ops.size := (Array.getElem?_eq_some_iff.1 ho).1
    simp [this] at hl
  · intro i
    simp only [List.mem_range]
    constructor
    · intro hi; exact ⟨hi, by simp [hi]⟩
    · exact fun h => h.1
theorem vc_sound (hC : CxOk C) (hm : C.P.follows .mixedOrders = true) : ∀ (c : Code) (Qv : Exit → S → Prop) (s : S) (a : Act) (w : World), okC n c = true → vc C cfg c Qv s → St C n F ok0 w0 s a w →
    c.wp C.P (fun e a' w' => ∃ s', Qv e s' ∧ St C n F ok0 w0 s' a' w') a w
  | .skip, Qv, s, a, w, _, hvc, h => _root_.Go.wp_skip ⟨s, hvc, h⟩
  | .region id ops draw, Qv, s, a, w, hok, hvc, h => by
    have hds : ∀ o ∈ ops.toList, ∀ d, o.dst = some d → d < n := by
      intro o ho d hd
      rw [okC, List.all_eq_true] at hok
      have := hok o ho
      rw [hd] at this
      simpa [Nat.blt_eq] using this
    simp only [vc] at hvc
    obtain ⟨s, h, hvc⟩ := St_keep h hvc
    have h2 := St_frzL hC (cfg.fz id) h
    cases draw with
    | false => exact region_sound hC hds hvc h2 fun s a w hk hs => ⟨s, hk, hs⟩
    | true =>
      simp only [cond_true] at hvc
      split at hvc
      · exact draw_sound hC hm hds hvc.1.h (Inv.nrm _ _) hvc.2 (St_nrm h2) fun s a w hk hs => ⟨s, hk, hs⟩
      · exact drawT_sound hC hm hds hvc.1.h (Inv.nrm _ _) hvc.2 (St_nrm h2) fun s a w hk hs => ⟨s, hk, hs⟩
  | .seq x y, Qv, s, a, w, hok, hvc, h => by
    simp only [okC, Bool.and_eq_true] at hok
    simp only [vc] at hvc
    refine wp_seq (wp_mono (vc_sound hC hm x _ s a w hok.1 hvc h) fun e a' w' hq => ?_)
    obtain ⟨s', hq, hs⟩ := hq
    cases e with
    | normal => exact vc_sound hC hm y _ s' a' w' hok.2 hq hs
    | exit id => exact ⟨s', hq, hs⟩
    | goto l => exact ⟨s', hq, hs⟩
    | ret => exact ⟨s', hq, hs⟩
    | panic ch => exact ⟨s', hq, hs⟩
    | outgrown => exact ⟨s', hq, hs⟩
  | .cond c x y, Qv, s, a, w, hok, hvc, h => by
    simp only [okC, Bool.and_eq_true] at hok
    simp only [vc] at hvc
    obtain ⟨ok, β, h'⟩ := h
    split at hvc
    · rename_i t e
      have hc := ev_bool h' e
      cases t with
      | true => exact wp_cond_true hc (vc_sound hC hm x _ s a w hok.1 hvc ⟨ok, β, h'⟩)
      | false => exact wp_cond_false hc (vc_sound hC hm y _ s a w hok.2 hvc ⟨ok, β, h'⟩)
    · rename_i L e
      have hr := ev_R h' c
      rw [e, R] at hr
      obtain ⟨b, hb, hn⟩ := hr
      cases b with
      | true => exact wp_cond_true hb (vc_sound hC hm x _ s a w hok.1 (hvc.1 (hn rfl)) ⟨ok, β, h'⟩)
      | false => exact wp_cond_false hb (vc_sound hC hm y _ s a w hok.2 hvc.2 ⟨ok, β, h'⟩)
    · exact hvc.elim
  | .block id c, Qv, s, a, w, hok, hvc, h => by
    simp only [okC] at hok
    simp only [vc] at hvc
    refine wp_block (wp_mono (vc_sound hC hm c _ s a w hok hvc h) fun e a' w' hq => ?_)
    obtain ⟨s', hq, hs⟩ := hq
    cases e with
    | exit id' =>
      simp only [Exit.inBlock]
      simp only at hq
      rw [beq_ite] at hq
      split
      · rename_i e; rw [if_pos e] at hq; exact ⟨s', hq, hs⟩
      · rename_i e; rw [if_neg e] at hq; exact ⟨s', hq, hs⟩
    | normal => exact ⟨s', hq, hs⟩
    | goto l => exact ⟨s', hq, hs⟩
    | ret => exact ⟨s', hq, hs⟩
    | panic ch => exact ⟨s', hq, hs⟩
    | outgrown => exact ⟨s', hq, hs⟩
  | .loop c, Qv, s, a, w, hok, hvc, h => by
    simp only [okC] at hok
    simp only [vc] at hvc
    obtain ⟨ι, σ, μ, i0, hge, hround⟩ := hvc
    intro b k cs
    have key : ∀ m i a w, μ i = m → St C n F ok0 w0 (σ i) a w → ∃ e a' w', (∃ s', Qv e s' ∧ St C n F ok0 w0 s' a' w') ∧ Arrives C.P (lone (b.at a (.code c :: .inLoop c :: k)) cs w) b k cs e a' w' := by
      intro m
      induction m using Nat.strongRecOn with
      | _ m ih =>
        intro i a w hm' hst
        obtain ⟨e, a₁, w₁, ⟨s', hq, hs⟩, harr⟩ := vc_sound hC hm c _ (σ i) a w hok (hround i) hst b (.inLoop c :: k) cs
        cases e with
        | normal =>
          obtain ⟨i', hge', hlt⟩ := hq
          obtain ⟨e₂, a₂, w₂, hq₂, harr₂⟩ := ih (μ i') (hm' ▸ hlt) i' a₁ w₁ rfl (St_ge hs hge')
          exact ⟨e₂, a₂, w₂, hq₂, .of_steps (Steps.trans harr (.one step_inLoop)) harr₂⟩
        | exit id => exact ⟨_, a₁, w₁, ⟨s', hq, hs⟩, .pass (x := .inLoop c) rfl (fun _ _ => .inl (by simp)) harr⟩
        | goto l => exact ⟨_, a₁, w₁, ⟨s', hq, hs⟩, .pass (x := .inLoop c) rfl (fun _ _ => .inl (by simp)) harr⟩
        | ret => exact ⟨_, a₁, w₁, ⟨s', hq, hs⟩, .pass (x := .inLoop c) rfl (fun _ _ => .inl (by simp)) harr⟩
        | panic ch => exact ⟨_, a₁, w₁, ⟨s', hq, hs⟩, .pass (x := .inLoop c) rfl (fun _ _ => .inl (by simp)) harr⟩
        | outgrown => exact ⟨_, a₁, w₁, ⟨s', hq, hs⟩, .pass (x := .inLoop c) rfl (fun _ _ => .inl (by simp)) harr⟩
    obtain ⟨e, a', w', hq, harr⟩ := key _ i0 a w rfl (St_ge h hge)
    exact ⟨e, a', w', hq, .of_steps (.one step_loop) harr⟩
  | .exit id, Qv, s, a, w, _, hvc, h => wp_exit ⟨s, hvc, h⟩
  | .ret, Qv, s, a, w, _, hvc, h => wp_ret ⟨s, hvc, h⟩
  | .rangeFunc .., Qv, s, a, w, _, hvc, h => hvc.elim
  | .scope _, Qv, s, a, w, _, hvc, h => hvc.elim
  | .label _, Qv, s, a, w, _, hvc, h => hvc.elim
  | .goto _, Qv, s, a, w, _, hvc, h => hvc.elim
  | .refuse _, Qv, s, a, w, _, hvc, h => hvc.elim
end

/-! ### What a function comes back with -/
mutual
def frzV (η : Nat → AO) : SV → Option PV
  | .p .nilS => some (.lst [])
  | .p x => some x
  | .slc κ => match η κ with
    | .row _ _ L => some (.lst L)
    | _ => none
  | .mix cs => (frzVL η cs).map .agg
  | _ => none
def frzVL (η : Nat → AO) : List SV → Option (List PV)
  | [] => some []
  | x :: xs => match frzV η x, frzVL η xs with
    | some y, some ys => some (y :: ys)
    | _, _ => none
end
def resSV (C : Cx) (s : S) : ResultVar → SV
  | .tmp t => s.ρ t
  | .cell t ty => match s.ρ t with
    | .ptr κ 0 => match s.η κ, C.T ty with
      | .var _ t' x, some _ => cond (Nat.beq t' ty) x .no
      | _, _ => .no
    | _ => .no
def LEP (x y : PV) : Prop := ∀ ok w v, RP ok w x v → RP ok w y v
theorem LEP.refl (x : PV) : LEP x x := fun _ _ _ h => h
def LEPL : List PV → List PV → Prop
  | [], [] => True
  | x :: xs, y :: ys => LEP x y ∧ LEPL xs ys
  | _, _ => False
def optP {α : Type} (o : Option α) (k : α → Prop) : Prop :=
  match o with
  | some x => k x
  | none => False
theorem optP_eq {α : Type} {o : Option α} {k : α → Prop} (h : optP o k) : ∃ x, o = some x ∧ k x := by
  cases o with
  | none => exact h.elim
  | some x => exact ⟨x, rfl, h⟩
/-- The results that lie in a walk's last state are those of a contract. -/
def retVC (C : Cx) (s : S) (rs : List ResultVar) (r : Res) : Prop :=
  match rs, r with
  | [rv], .pv y => optP (frzV s.η (resSV C s rv)) fun z => z.force fun z => LEP z y
  | [rv], .fresh t sz L => match resSV C s rv with
    | .slc κ => match s.η κ with
      | .row t' sz' L' => t' = t ∧ sz' = sz ∧ L' = L
      | _ => False
    | _ => False
  | [], .tup ys => ys = []
  | rv :: rv' :: rs, .tup ys => optP (frzVL s.η ((rv :: rv' :: rs).map (resSV C s))) fun zs => PV.forceL zs fun zs => LEPL zs ys
  | _, _ => False
def S.init (args : List SV) (ηi : Nat → AO) : S := { ρ := fun t => args.getD t .no, η := ηi }
def endVC (C : Cx) (rs : List ResultVar) (r : Res) : Exit → S → Prop
  | .normal, s => retVC C s rs r
  | .ret, s => retVC C s rs r
  | _, _ => False
section
variable {C : Cx} {n : Nat} {F : Fm} {ok0 : Nat → Prop} {w0 : World} {ok : Nat → Prop} {β : Nat → Value} {s : S} {a : Act} {w : World}
mutual
theorem frzV_R {ok' : Nat → Prop} (h : StO C n F ok0 w0 ok β s a w) (hok : ∀ b, ok b → ok' b) (hrow : ∀ κ b, (s.η κ).mine = true → (β κ).ownBlock = some b → ok' b) : ∀ (x : SV) (z : PV) (v : Value), frzV s.η x = some z → R ok β w x v → RP ok' w z v
  | .p x, z, v, e, hr => by
    rw [R] at hr
    cases x with
    | nilS =>
      simp only [frzV, Option.some.injEq] at e
      subst e
      rw [RP] at hr
      rw [RP, hr]
      exact ⟨none, 0, 0, rfl, Nat.le_refl _, by simp [maxLen], trivial⟩
    | _ =>
      simp only [frzV, Option.some.injEq] at e
      subst e
      exact RP_stay hok (Stay.refl _ _) hr
  | .slc κ, z, v, e, hr => by
    simp only [frzV] at e
    split at e
    · rename_i t sz L eη
      simp only [Option.some.injEq] at e
      subst e
      have hob := h.η κ
      rw [eη] at hob
      obtain ⟨_, ⟨xs, h1, h2⟩, _⟩ := hob
      rw [R] at hr
      rw [hr.1]
      exact row_lst h1 h2 hok fun b hb => hrow κ b (by rw [eη]; rfl) hb
    · cases e
  | .mix cs, z, v, e, hr => by
    simp only [frzV, Option.map_eq_some_iff] at e
    obtain ⟨zs, e, rfl⟩ := e
    rw [R] at hr
    obtain ⟨vs, h1, h2, h3⟩ := hr
    rw [RP]
    exact ⟨vs, h1, h2, frzVL_R h hok hrow cs zs vs e h3⟩
  | .no, z, v, e, hr => by simp [frzV] at e
  | .elt _, z, v, e, hr => by simp [frzV] at e
  | .eltF _ _, z, v, e, hr => by simp [frzV] at e
  | .rowE _ _ _, z, v, e, hr => by simp [frzV] at e
  | .ptr _ _, z, v, e, hr => by simp [frzV] at e
  | .fn _ _, z, v, e, hr => by simp [frzV] at e
  | .tupS _, z, v, e, hr => by simp [frzV] at e
  | .glob _, z, v, e, hr => by simp [frzV] at e
  | .nilQ _, z, v, e, hr => by simp [frzV] at e
theorem frzVL_R {ok' : Nat → Prop} (h : StO C n F ok0 w0 ok β s a w) (hok : ∀ b, ok b → ok' b) (hrow : ∀ κ b, (s.η κ).mine = true → (β κ).ownBlock = some b → ok' b) : ∀ (xs : List SV) (zs : List PV) (vs : List Value), frzVL s.η xs = some zs → RL ok β w xs vs → RPL ok' w zs vs
  | [], zs, [], e, hr => by simp [frzVL] at e; subst e; trivial
  | [], zs, _ :: _, e, hr => hr.elim
  | _ :: _, zs, [], e, hr => hr.elim
  | x :: xs, zs, v :: vs, e, hr => by
    simp only [frzVL] at e
    split at e
    · rename_i y ys e1 e2
      simp only [Option.some.injEq] at e
      subst e
      exact ⟨frzV_R h hok hrow x y v e1 hr.1, frzVL_R h hok hrow xs ys vs e2 hr.2⟩
    · cases e
end
theorem LEPL_R {ok : Nat → Prop} {w : World} : ∀ {xs ys : List PV} {vs : List Value}, LEPL xs ys → RPL ok w xs vs → RPL ok w ys vs
  | [], [], _, _, h => h
  | [], _ :: _, _, h, _ => h.elim
  | _ :: _, [], _, h, _ => h.elim
  | x :: xs, y :: ys, [], _, h => h.elim
  | x :: xs, y :: ys, v :: vs, h, h' => ⟨h.1 _ _ _ h'.1, LEPL_R h.2 h'.2⟩
/-- A result slot, as the model reads it. -/
def resRun (a : Act) : ResultVar → Sem Value
  | .tmp t => pure (a.tmps.getD t undef)
  | .cell x t => do loadVar t (← asAddr (a.tmps.getD x undef))
theorem res_run (hC : CxOk C) (h : StO C n F ok0 w0 ok β s a w) (rv : ResultVar) (hne : resSV C s rv ≠ .no) : ∃ v, (resRun a rv).run C.P w = .ok v w ∧ R ok β w (resSV C s rv) v := by
  cases rv with
  | tmp t => exact ⟨_, rfl, h.ρ t⟩
  | cell t ty =>
    simp only [resSV] at hne ⊢
    split at hne
    · rename_i κ e
      split at hne
      · rename_i own t' x ti eη eT
        rw [beq_ite] at hne ⊢
        split at hne
        · rename_i ht
          subst ht
          rw [if_pos rfl]
          have hr := h.ρ t
          rw [e, R] at hr
          obtain ⟨b, h1, h2⟩ := hr
          have hob := h.η κ
          rw [eη] at hob
          obtain ⟨b', v, q1, q2, q3, q4, q5, q6, q7⟩ := hob
          rw [h1] at q1
          simp only [Value.pointer.injEq, Option.some.injEq, Addr.mk.injEq, and_true] at q1
          subst q1
          obtain ⟨g1, g2, g3⟩ := q7 ti eT
          have hcell : ∀ j u, v.cells.toList[j]? = some u → w.cell? ⟨b, j, none⟩ = some u := by
            intro j u hj
            simp only [World.cell?, q2]
            simpa using hj
          refine ⟨v, ?_, q3⟩
          have hl : (loadVar t' ⟨b, 0, none⟩).run C.P w = .ok v w := by
            cases ha : ti.agg with
            | true =>
              have := run_loadVar_agg (hC.ty _ _ eT) ha (w := w) (ad := ⟨b, 0, none⟩) (cs := v.cells.toList) (by simpa using g1) (fun j u hj => by rw [add_plain]; simpa using hcell j u hj)
              rw [this]
              congr 1
              rw [Array.toArray_toList, ← g2 ha]
            | false =>
              refine run_loadVar_one (hC.ty _ _ eT) ha (hcell 0 v ?_)
              rw [one_cells (g3 ha)]
              rfl
          simp [resRun, h2, asAddr, hl]
        · exact absurd rfl hne
      · exact absurd rfl hne
    · exact absurd rfl hne
theorem frz_ne {η : Nat → AO} {x : SV} {z : PV} (h : frzV η x = some z) : x ≠ .no := by rintro rfl; simp [frzV] at h
theorem results_one {fn : Func} {rv : ResultVar} (hr : fn.results.toList = [rv]) {v : Value} (h : (resRun a rv).run C.P w = .ok v w) : (results fn a.tmps).run C.P w = .ok v w := by
  have e : fn.results = #[rv] := by apply Array.ext'; simpa using hr
  cases rv with
  | tmp t => simpa [results, e, resRun] using h
  | cell x t => simp only [resRun] at h; simp [results, e]; simpa using h
theorem mapM_run {P : Program} : ∀ {rs : List ResultVar} {vs : List Value}, (∀ (i : Nat) (rv : ResultVar), rs[i]? = some rv → ∃ v, vs[i]? = some v ∧ (resRun a rv).run P w = .ok v w) → vs.length = rs.length → (rs.mapM (resRun a)).run P w = .ok vs w
  | [], [], _, _ => by simp
  | [], _ :: _, _, h => by simp at h
  | _ :: _, [], _, h => by simp at h
  | r :: rs, v :: vs, h, hl => by
    obtain ⟨v', e, hr⟩ := h 0 r rfl
    simp at e
    subst e
    have ih := mapM_run (rs := rs) (vs := vs) (fun i rv hi => by simpa using h (i + 1) rv (by simpa using hi)) (by simpa using hl)
    simp [List.mapM_cons, hr, ih]
theorem results_many {fn : Func} {rs : List ResultVar} (hr : fn.results.toList = rs) (h1 : rs.length ≠ 1) {vs : List Value} (h : ∀ (i : Nat) (rv : ResultVar), rs[i]? = some rv → ∃ v, vs[i]? = some v ∧ (resRun a rv).run C.P w = .ok v w) (hl : vs.length = rs.length) : (results fn a.tmps).run C.P w = .ok (.tuple vs.toArray) w := by
  have e : fn.results = rs.toArray := by apply Array.ext'; simpa using hr
  have hm := mapM_run (P := C.P) h hl
  have aux : ∀ g : ResultVar → Sem Value, (∀ r, g r = resRun a r) → (do let vs ← List.toArray <$> List.mapM g rs; pure (if h : vs.size = 1 then vs[0] else Value.tuple vs) : Sem Value).run C.P w = .ok (.tuple vs.toArray) w := by
    intro g hg
    obtain rfl : g = resRun a := funext hg
    simp [hm]
    omega
  unfold results
  rw [e]
  simp only [Array.mapM_eq_mapM_toList]
  exact aux _ fun r => by cases r <;> rfl
theorem ret_sound (hC : CxOk C) {fn : Func} {rs : List ResultVar} (hrs : fn.results.toList = rs) {r : Res} (h : StO C n F ok0 w0 ok β s a w) (hF : ∀ b, ¬ F.m b) (hr : retVC C s rs r) (h0 : ∀ b, ok0 b → b < w0.heap.size) :
    ∃ v, (results fn a.tmps).run C.P w = .ok v w ∧ RES ok0 w0 w r v := by
  have hsub : ∀ b, ok b → (ok0 b ∨ w0.heap.size ≤ b ∧ b < w.heap.size) := fun b hb => by
    rcases h.new b hb with h1 | h1 | h1
    · exact .inl h1
    · exact absurd h1 (hF b)
    · exact .inr ⟨h1, h.lt b hb⟩
  have hmay : ∀ b, may F w0 b → w0.heap.size ≤ b := fun b hb => hb.resolve_left (hF b)
  have hrow : ∀ κ b, (s.η κ).mine = true → (β κ).ownBlock = some b → (ok0 b ∨ w0.heap.size ≤ b ∧ b < w.heap.size) := fun κ b hm hb =>
    .inr ⟨hmay b (mine_block h hm (ownBlock_blockOf hb)).2.1, OB_lt (h.η κ) (mine_live hm) (ownBlock_blockOf hb)⟩
  unfold retVC at hr
  split at hr
  · rename_i rv y
    obtain ⟨z, e, hle⟩ := optP_eq hr
    rw [PV.force_eq] at hle
    obtain ⟨v, g1, g2⟩ := res_run hC h rv (frz_ne e)
    exact ⟨v, results_one hrs g1, hle _ _ _ (frzV_R h hsub hrow _ z v e g2)⟩
  · rename_i rv t sz L
    split at hr
    · rename_i κ e
      obtain ⟨v, g1, g2⟩ := res_run hC h rv (by rw [e]; simp)
      rw [e, R] at g2
      have hr : s.η κ = .row t sz L := by
        split at hr
        · rename_i t' sz' L' e'
          obtain ⟨rfl, rfl, rfl⟩ := hr
          exact e'
        · exact hr.elim
      have hob := h.η κ
      rw [hr] at hob
      obtain ⟨hpos, ⟨xs, q1, q2⟩, q3⟩ := hob
      refine ⟨v, results_one hrs g1, hpos, xs, ?_, RRow_stay (fun b hb => ⟨hsub b hb, ?_⟩) (Stay.refl _ _) q2⟩
      · rw [g2.1]
        refine ⟨q1.1, ?_⟩
        rcases q1.2 with q1 | ⟨g, cap, cur, e1, _, q1⟩
        · exact .inl q1
        · exact .inr ⟨g, cap, cur, e1, hmay g (q3 g (by rw [e1]; rfl)).2, q1⟩
      · rw [g2.1]; exact fun e => (q3 b e).1 hb
    · exact hr.elim
  · rename_i ys
    subst hr
    refine ⟨.tuple #[], ?_, [], rfl, trivial⟩
    exact results_many hrs (by simp) (vs := []) (fun i rv hi => by simp at hi) rfl
  · rename_i rv rv' rs' ys
    obtain ⟨zs, e, hle⟩ := optP_eq hr
    rw [PV.forceL_eq] at hle
    have key : ∀ (rs : List ResultVar) (zs : List PV), frzVL s.η (rs.map (resSV C s)) = some zs → ∃ vs, vs.length = rs.length ∧ (∀ (i : Nat) (rv : ResultVar), rs[i]? = some rv → ∃ v, vs[i]? = some v ∧ (resRun a rv).run C.P w = .ok v w) ∧ RL ok β w (rs.map (resSV C s)) vs := by
      intro rs
      induction rs with
      | nil => intro zs _; exact ⟨[], rfl, fun i rv hi => by simp at hi, trivial⟩
      | cons r rs ih =>
        intro zs e
        simp only [List.map_cons, frzVL] at e
        split at e
        · rename_i y ys e1 e2
          obtain ⟨vs, h1, h2, h3⟩ := ih ys e2
          obtain ⟨v, g1, g2⟩ := res_run hC h r (frz_ne e1)
          refine ⟨v :: vs, by simp [h1], fun i rv hi => ?_, ⟨g2, h3⟩⟩
          cases i with
          | zero => simp at hi; subst hi; exact ⟨v, rfl, g1⟩
          | succ i => simpa using h2 i rv (by simpa using hi)
        · cases e
    obtain ⟨vs, h1, h2, h3⟩ := key _ _ e
    exact ⟨_, results_many hrs (by simp) h2 h1, vs, rfl, LEPL_R hle (frzVL_R h hsub hrow _ _ _ e h3)⟩
  · exact hr.elim
end
/-- A CONTRACT, out of the conditions over the function's code. -/
theorem PC_of_vc {C : Cx} (hC : CxOk C) (hm : C.P.follows .mixedOrders = true) {f : FuncId} {fn : Func} {c : Code} {args : List SV} {ηi : Nat → AO} {r : Res} (cfg : Cfg) (hf : C.P.funcs[f]? = some fn) (hname : (fn.name == "runtime.NumGoroutine") = false) (hb : fn.body = some c)
    (hn : (Nat.ble args.length fn.ntmps && Nat.ble fn.ntmps 2000) = true) (hok : okC fn.ntmps c = true) (hvc : vc C cfg c (endVC C fn.results.toList r) (S.init args ηi)) : PC C f ηi args r := by
  refine ⟨⟨fn, hf, hname, by rw [hb]; rfl⟩, ?_⟩
  intro ok β w vs hgx hlt hvs hobs hlive hkeys hnomine
  have hlen := RL_length hvs
  rw [Bool.and_eq_true] at hn
  have hn2 := Nat.le_of_ble_eq_true hn.2
  have hn := Nat.le_of_ble_eq_true hn.1
  refine calls_of_wp hf hb ?_
  have hinit : StO C fn.ntmps ⟨fun _ => False, β⟩ ok w ok β (S.init args ηi) { tmps := vs.toArray ++ Array.replicate (fn.ntmps - vs.toArray.size) undef, defers := [] } w :=
    { lt := hlt
      new := fun b hb => .inl hb
      old := fun b hb => hb
      gx := hgx
      defers := rfl
      size := by simp; omega
      ρ := fun t => by
        show R ok β w (args.getD t .no) _
        rw [List.getD_eq_getElem?_getD]
        cases e : args[t]? with
        | none => trivial
        | some x =>
          obtain ⟨v, hv, hr⟩ := RL_get hvs e
          have : (vs.toArray ++ Array.replicate (fn.ntmps - vs.toArray.size) undef).getD t undef = v := by
            rw [Array.getD_eq_getD_getElem?, Array.getElem?_append_left (by simpa using (List.getElem?_eq_some_iff.1 hv).1)]
            simp [hv]
          rw [this]
          exact hr
      η := fun κ => by
        have h1 := hobs κ
        show OB C ok β w _ κ (ηi κ)
        cases e : ηi κ with
        | no => trivial
        | row t sz L => have := hnomine κ; rw [e] at this; cases this
        | mp t sk L => have := hnomine κ; rw [e] at this; cases this
        | var own t x =>
          rw [e] at h1
          obtain ⟨b, v, q1, q2, q3, q4, q5, q6⟩ := h1
          exact ⟨b, v, q1, q2, q3, q4, fun ho => .inr (q5 ho), q6⟩
      ro := fun κ t x b hη hb hc => by
        have := OB_lt (hobs κ) (by have : ηi κ = _ := hη; rw [this]; rfl) hb
        rcases hc with hc | hc
        · exact hc
        · omega
      dis := fun κ κ' b h1 _ _ _ => by
        have h1 : (ηi κ).mine = true := h1
        rw [hnomine κ] at h1
        cases h1
      wf := ⟨fun t κ hκ => by
        change κ ∈ (args.getD t .no).keys at hκ
        rw [List.getD_eq_getElem?_getD] at hκ
        cases e : args[t]? with
        | none => rw [e] at hκ; simp [SV.keys] at hκ
        | some x =>
          rw [e] at hκ
          exact hlive κ (keysL_mem (List.mem_of_getElem? e) hκ), fun t κ hκ => hkeys t κ hκ⟩
      below := Keep.refl _ _
      n2 := hn2
      pin := fun _ _ => rfl }
  refine wp_mono (vc_sound hC hm c _ _ _ _ hok hvc ⟨ok, β, hinit⟩) fun e a' w' hq => ?_
  obtain ⟨s', hq, ok', β', hs⟩ := hq
  cases e with
  | normal =>
    obtain ⟨v, h1, h2⟩ := ret_sound hC rfl hs (fun _ h => h) hq hlt
    exact ⟨hs.defers, v, h1, v, rfl, h2, ⟨hs.below.os, hs.below.tape, hs.below.output, hs.below.size, fun b hb => hs.below.block b hb fun h => h⟩⟩
  | ret =>
    obtain ⟨v, h1, h2⟩ := ret_sound hC rfl hs (fun _ h => h) hq hlt
    exact ⟨hs.defers, v, h1, v, rfl, h2, ⟨hs.below.os, hs.below.tape, hs.below.output, hs.below.size, fun b hb => hs.below.block b hb fun h => h⟩⟩
  | exit id => exact hq.elim
  | goto l => exact hq.elim
  | panic ch => exact hq.elim
  | outgrown => exact hq.elim
end Go.Vc
