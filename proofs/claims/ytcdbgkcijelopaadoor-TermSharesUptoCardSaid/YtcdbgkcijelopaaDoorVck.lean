/- A calculus of verification conditions, part 13b: a call that writes to objects. -/
import Derived.Test.YtcdbgkcijelopaaDoorVcd
set_option linter.unusedVariables false
namespace Go.Vc
open Go Go.RowKit

mutual
theorem R_ren {ok : Nat → Prop} {β : Nat → Value} {w : World} {g : Nat → Nat} : ∀ (x : SV) (v : Value), R ok β w (x.ren g) v ↔ R ok (fun k => β (g k)) w x v
  | .no, v => Iff.rfl
  | .p _, v => Iff.rfl
  | .elt _, v => Iff.rfl
  | .eltF _ _, v => Iff.rfl
  | .rowE _ _ _, v => Iff.rfl
  | .ptr _ _, v => Iff.rfl
  | .slc _, v => by simp only [SV.ren, R]
  | .glob _, v => Iff.rfl
  | .nilQ _, v => Iff.rfl
  | .fn f caps, v => by
    simp only [SV.ren, R]
    exact ⟨fun ⟨vs, h1, h2⟩ => ⟨vs, h1, (RL_ren caps vs).1 h2⟩, fun ⟨vs, h1, h2⟩ => ⟨vs, h1, (RL_ren caps vs).2 h2⟩⟩
  | .mix cs, v => by
    simp only [SV.ren, R]
    exact ⟨fun ⟨vs, h1, h2, h3⟩ => ⟨vs, h1, h2, (RL_ren cs vs).1 h3⟩, fun ⟨vs, h1, h2, h3⟩ => ⟨vs, h1, h2, (RL_ren cs vs).2 h3⟩⟩
  | .tupS cs, v => by
    simp only [SV.ren, R]
    exact ⟨fun ⟨vs, h1, h2⟩ => ⟨vs, h1, (RL_ren cs vs).1 h2⟩, fun ⟨vs, h1, h2⟩ => ⟨vs, h1, (RL_ren cs vs).2 h2⟩⟩
theorem RL_ren {ok : Nat → Prop} {β : Nat → Value} {w : World} {g : Nat → Nat} : ∀ (xs : List SV) (vs : List Value), RL ok β w (SV.renL g xs) vs ↔ RL ok (fun k => β (g k)) w xs vs
  | [], [] => Iff.rfl
  | [], _ :: _ => Iff.rfl
  | _ :: _, [] => Iff.rfl
  | x :: xs, v :: vs => by
    simp only [SV.renL, RL]
    rw [R_ren x v, RL_ren xs vs]
end
mutual
theorem ren_keys {g : Nat → Nat} : ∀ (x : SV), (x.ren g).keys = x.keys.map g
  | .no => rfl
  | .p _ => rfl
  | .elt _ => rfl
  | .eltF _ _ => rfl
  | .rowE _ _ _ => rfl
  | .ptr _ _ => rfl
  | .slc _ => rfl
  | .glob _ => rfl
  | .nilQ _ => rfl
  | .fn f caps => by simp only [SV.ren, SV.keys]; exact renL_keys caps
  | .mix cs => by simp only [SV.ren, SV.keys]; exact renL_keys cs
  | .tupS cs => by simp only [SV.ren, SV.keys]; exact renL_keys cs
theorem renL_keys {g : Nat → Nat} : ∀ (xs : List SV), SV.keysL (SV.renL g xs) = (SV.keysL xs).map g
  | [] => rfl
  | x :: xs => by simp only [SV.renL, SV.keysL, List.map_append]; rw [ren_keys x, renL_keys xs]
end
theorem AO.ren_live (o : AO) (g : Nat → Nat) : (o.ren g).live = o.live := by cases o <;> rfl
theorem AO.ren_mine (o : AO) (g : Nat → Nat) : (o.ren g).mine = o.mine := by cases o <;> rfl
theorem AO.ren_keys (o : AO) (g : Nat → Nat) : (o.ren g).keys = o.keys.map g := by
  cases o with
  | var own t x => exact Go.Vc.ren_keys x
  | _ => rfl
theorem OB_ren {C : Cx} {ok : Nat → Prop} {β : Nat → Value} {w : World} {M : Nat → Prop} {g : Nat → Nat} {κ : Nat} (o : AO) : OB C ok β w M (g κ) (o.ren g) ↔ OB C ok (fun k => β (g k)) w M κ o := by
  cases o with
  | no => exact Iff.rfl
  | row t sz L => exact Iff.rfl
  | mp t sk L => exact Iff.rfl
  | var own t x =>
    simp only [AO.ren, OB]
    constructor
    · rintro ⟨b, v, h1, h2, h3, h4⟩; exact ⟨b, v, h1, h2, (R_ren x v).1 h3, h4⟩
    · rintro ⟨b, v, h1, h2, h3, h4⟩; exact ⟨b, v, h1, h2, (R_ren x v).2 h3, h4⟩
theorem OB_weaken {C : Cx} {ok : Nat → Prop} {β : Nat → Value} {w : World} {M M' : Nat → Prop} {κ : Nat} {o : AO} (hM : ∀ b, M b → M' b) (h : OB C ok β w M κ o) : OB C ok β w M' κ o := by
  cases o with
  | no => trivial
  | row t sz L =>
    obtain ⟨h1, h2, h3⟩ := h
    exact ⟨h1, h2, fun k hk => ⟨(h3 k hk).1, hM k (h3 k hk).2⟩⟩
  | mp t sk L =>
    obtain ⟨r, es, clock, h1, h2, h3, h4, h5⟩ := h
    exact ⟨r, es, clock, h1, h2, h3, hM r h4, h5⟩
  | var own t x =>
    obtain ⟨b, v, h1, h2, h3, h4, h5, h6⟩ := h
    exact ⟨b, v, h1, h2, h3, h4, fun ho => hM b (h5 ho), h6⟩
theorem OB_less {C : Cx} {ok : Nat → Prop} {β : Nat → Value} {w : World} {M : Nat → Prop} {κ : Nat} {a b : AO} (h : OLM a b) (ho : OB C ok β w M κ a) : OB C ok β w M κ b := by
  rcases h with rfl | rfl | ⟨own, t, x, y, rfl, rfl, hle⟩ | ⟨t, x, y, rfl, rfl, hle⟩
  · trivial
  · exact ho
  · obtain ⟨b, v, h1, h2, h3, h4⟩ := ho
    exact ⟨b, v, h1, h2, hle _ _ _ _ h3, h4⟩
  · obtain ⟨b, v, h1, h2, h3, h4, h5, h6⟩ := ho
    exact ⟨b, v, h1, h2, hle _ _ _ _ h3, h4, (fun h => by cases h), h6⟩
theorem OLM.live {a b : AO} (h : OLM a b) (hb : b.live = true) : a.live = true := by
  rcases h with rfl | rfl | ⟨own, t, x, y, rfl, rfl, hle⟩ | ⟨t, x, y, rfl, rfl, hle⟩
  · cases hb
  · exact hb
  · rfl
  · rfl
theorem OLM.mine {a b : AO} (h : OLM a b) (hb : b.mine = true) : a.mine = true := by
  rcases h with rfl | rfl | ⟨own, t, x, y, rfl, rfl, hle⟩ | ⟨t, x, y, rfl, rfl, hle⟩
  · cases hb
  · exact hb
  · exact hb
  · rfl
theorem lookO_in {l : List (Nat × AO)} {κ : Nat} (h : (lookO l κ).live = true) : (κ, lookO l κ) ∈ l := by
  induction l with
  | nil => cases h
  | cons y r ih =>
    obtain ⟨k, o⟩ := y
    simp only [lookO] at h ⊢
    rw [beq_ite] at h ⊢
    split
    · rename_i e; rw [e]; exact List.mem_cons_self ..
    · rename_i e; rw [if_neg e] at h; exact List.mem_cons_of_mem _ (ih h)
theorem lookO_liv {l : List (Nat × AO)} {κ : Nat} {o : AO} (h : (κ, o) ∈ l) (hl : ∀ y ∈ l, y.2.live = true) : (lookO l κ).live = true := by
  induction l with
  | nil => cases h
  | cons y r ih =>
    obtain ⟨k, o'⟩ := y
    simp only [lookO]
    rw [beq_ite]
    split
    · exact hl _ (List.mem_cons_self ..)
    · rename_i e
      rcases List.mem_cons.1 h with e' | h
      · cases e'; exact absurd rfl e
      · exact ih h fun y hy => hl y (List.mem_cons_of_mem _ hy)
theorem overO_hit {g : Nat → Nat} {e : Nat → AO} : ∀ {l : List (Nat × AO)} {κ : Nat}, (∀ y ∈ l, g y.1 = g κ → y.1 = κ) → (lookO l κ).live = true → overO g l e (g κ) = (lookO l κ).ren g
  | [], κ, _, h => by cases h
  | (k, o) :: r, κ, hi, h => by
    simp only [overO, lookO] at h ⊢
    rw [beq_ite, beq_ite] at *
    by_cases hk : κ = k
    · subst hk
      rw [if_pos rfl, if_pos rfl]
    · rw [if_neg hk] at h ⊢
      rw [if_neg fun e' => hk (hi (k, o) (List.mem_cons_self ..) e'.symm).symm]
      exact overO_hit (fun y hy => hi y (List.mem_cons_of_mem _ hy)) h
theorem overO_miss {g : Nat → Nat} {e : Nat → AO} : ∀ {l : List (Nat × AO)} {k : Nat}, (∀ y ∈ l, g y.1 ≠ k) → overO g l e k = e k
  | [], k, _ => rfl
  | (κ, o) :: r, k, h => by
    simp only [overO]
    rw [beq_ite, if_neg fun e' => h (κ, o) (List.mem_cons_self ..) e'.symm]
    exact overO_miss fun y hy => h y (List.mem_cons_of_mem _ hy)
section
variable {C : Cx} {n : Nat} {F : Fm} {ok0 : Nat → Prop} {w0 : World} {ok : Nat → Prop} {β : Nat → Value} {s : S} {a : Act} {w : World} {own : Nat → Bool} {o : Oper} {K : Act → World → Prop} {Q : Exit → Act → World → Prop}
theorem StO.killL : ∀ (l : List Nat) {s : S}, StO C n F ok0 w0 ok β s a w → StO C n F ok0 w0 ok β (s.killL l) a w
  | [], s, h => h
  | κ :: l, s, h => StO.killL l (h.kill κ)
theorem killL_live : ∀ (l : List Nat) {s : S} {κ : Nat}, ((s.killL l).η κ).live = true ↔ (s.η κ).live = true ∧ κ ∉ l
  | [], s, κ => by simp [S.killL]
  | q :: l, s, κ => by
    rw [S.killL, killL_live l, kill_live]
    simp only [List.mem_cons, not_or]
    exact ⟨fun ⟨⟨h1, h2⟩, h3⟩ => ⟨h1, h2, h3⟩, fun ⟨h1, h2, h3⟩ => ⟨⟨h1, h2⟩, h3⟩⟩
theorem killL_mine : ∀ (l : List Nat) {s : S} {κ : Nat}, ((s.killL l).η κ).mine = true → (s.η κ).mine = true
  | [], s, κ, h => h
  | q :: l, s, κ, h => by
    have h := killL_mine l h
    change AO.mine (cond (Nat.beq κ q) .no ((s.η κ).purge q)) = true at h
    rw [beq_ite] at h
    split at h
    · cases h
    · cases e : s.η κ <;> simp_all [AO.purge, AO.mine]
open Classical in
/-- Where the objects lie behind the call. -/
noncomputable def afterβ (g : Nat → Nat) (O : List (Nat × AO)) (β β' : Nat → Value) (k : Nat) : Value :=
  if h : ∃ κ, (lookO O κ).live = true ∧ g κ = k then β' (Classical.choose h) else β k
theorem mcall_sound (hC : CxOk C) (h : StO C n F ok0 w0 ok β s a w) {d : Nat} (hd : d < n) {f : FuncId} {args : List SV} {s' : S} (hm : MCallVC C s f args d s') {vs : List Value} (hargs : RL ok β w args vs) :
    FnOk C.P f ∧ Calls C.P f vs.toArray w fun e w' => ∃ v, e = .returned v ∧ St C n F ok0 w0 s' (a.put (some d) v) w' := by
  obtain ⟨I, args0, O, x, g, hP, hle, hI, hinj, hnew, hmov, rfl⟩ := hm.out
  refine ⟨hP.fn, ?_⟩
  have hst := hP.st
  simp only [okM, Bool.and_eq_true, List.all_eq_true] at hst
  obtain ⟨⟨⟨⟨t1, t2⟩, t3⟩, t4⟩, t5⟩ := hst
  have hOlive : ∀ y ∈ O, y.2.live = true := fun y hy => mine_live (t3 y hy).1
  have hOmine : ∀ κ, (lookO O κ).live = true → (lookO O κ).mine = true := fun κ hl => (t3 _ (lookO_in hl)).1
  have hIO : ∀ κ, (lookO I κ).mine = true → (lookO O κ).live = true := fun κ hl => by
    have := t5 _ (lookO_in (mine_live hl))
    simpa [hl] using this
  have hIro : ∀ κ, (lookO I κ).live = true → (lookO I κ).mine = false → 2000 ≤ κ := fun κ hl hmn => by
    have := (t2 _ (lookO_in hl)).2
    simp only [hmn, Bool.false_and, Bool.false_or] at this
    exact Nat.le_of_ble_eq_true this
  -- the objects as the contract names them
  have hobs : ∀ κ, OB C ok (fun k => β (g k)) w (fun _ => True) κ (lookO I κ) := fun κ =>
    (OB_ren (lookO I κ)).1 (OB_weaken (fun _ _ => trivial) (OB_less (hI κ) (h.η (g κ))))
  have hlive : ∀ κ, (lookO I κ).live = true → (s.η (g κ)).live = true := fun κ hl => (hI κ).live (by rw [AO.ren_live]; exact hl)
  have hmine : ∀ κ, (lookO I κ).mine = true → (s.η (g κ)).mine = true := fun κ hl => (hI κ).mine (by rw [AO.ren_mine]; exact hl)
  have hcall := hP.run ok (fun k => β (g k)) w vs h.gx h.lt ((RL_ren _ _).1 (RL_LEL hle hargs)) hobs (fun κ κ' b h1 h2 h3 h4 => by
    have := (mine_block h (hmine κ h1) h3).2.2 (g κ') (hlive κ' h2) h4
    exact (hinj κ' κ (by rw [h2]; rfl) (by rw [mine_live h1]; rfl) this).symm)
  refine hcall.mono ?_
  rintro e w' ⟨v, β', ok', rfl, r⟩
  refine ⟨v, rfl, ?_⟩
  have hmb : ∀ b, mblk I (fun k => β (g k)) b → ¬ ok b ∧ may F w0 b ∧ ∃ κ, (lookO O κ).live = true ∧ ∀ κ', (s.η κ').live = true → blockOf (β κ') = some b → κ' = g κ := by
    rintro b ⟨κ, h1, h2⟩
    have := mine_block h (hmine κ h1) h2
    exact ⟨this.1, this.2.1, κ, hIO κ h1, this.2.2⟩
  have hstay : Stay ok w w' := fun b hb hlt => r.keep.block b hlt fun hc => (hmb b hc).1 hb
  obtain ⟨β2, hβ2⟩ : ∃ β2, β2 = afterβ g O β β' := ⟨_, rfl⟩
  have b1 : ∀ κ, (lookO O κ).live = true → β2 (g κ) = β' κ := by
    intro κ hl
    have hx : ∃ κ', (lookO O κ').live = true ∧ g κ' = g κ := ⟨κ, hl, rfl⟩
    rw [hβ2, afterβ, dif_pos hx]
    have hc := Classical.choose_spec hx
    rw [hinj _ κ (by rw [hc.1, Bool.or_true]) (by rw [hl, Bool.or_true]) hc.2]
  have b2 : ∀ k, (∀ κ, (lookO O κ).live = true → g κ ≠ k) → β2 k = β k := by
    intro k hk
    rw [hβ2, afterβ, dif_neg]
    rintro ⟨κ, h1, h2⟩
    exact hk κ h1 h2
  have hs1 := h.killL (movers g I)
  obtain ⟨s1, es1⟩ : ∃ s1, s1 = s.killL (movers g I) := ⟨_, rfl⟩
  rw [← es1] at hs1
  have hl1 : ∀ k, (s1.η k).live = true ↔ (s.η k).live = true ∧ k ∉ movers g I := fun k => by rw [es1]; exact killL_live _
  -- what is named keeps its place
  have b3 : ∀ k, (s1.η k).live = true → β2 k = β k := by
    intro k hk
    obtain ⟨hk1, hk2⟩ := (hl1 k).1 hk
    by_cases hx : ∃ κ, (lookO O κ).live = true ∧ g κ = k
    · obtain ⟨κ, h1, rfl⟩ := hx
      rw [b1 κ h1]
      cases hli : (lookO I κ).live with
      | false => rw [(hnew κ h1 hli).1] at hk1; cases hk1
      | true =>
        by_cases h2 : κ < 2000
        · exfalso
          apply hk2
          exact List.mem_map.2 ⟨(κ, lookO I κ), List.mem_filter.2 ⟨lookO_in hli, by simpa [Nat.blt_eq] using h2⟩, rfl⟩
        · exact r.pin κ (by omega) hli
    · exact b2 k fun κ h1 h2 => hx ⟨κ, h1, h2⟩
  have b4 : ∀ κ, ((lookO O κ).live || ((lookO I κ).live && !(lookO I κ).mine)) = true → β2 (g κ) = β' κ := by
    intro κ hκ
    by_cases h1 : (lookO O κ).live = true
    · exact b1 κ h1
    · have h1' : (lookO O κ).live = false := by simpa using h1
      rw [h1'] at hκ
      simp only [Bool.false_or, Bool.and_eq_true, Bool.not_eq_true'] at hκ
      rw [r.pin κ (hIro κ hκ.1 hκ.2) hκ.1]
      refine b2 _ fun κ' h2 h3 => ?_
      have := hinj κ' κ (by rw [h2, Bool.or_true]) (by rw [hκ.1]; rfl) h3
      rw [this, h1'] at h2
      cases h2
  have hη : ∀ κ, (lookO O κ).live = true → overO g O s1.η (g κ) = (lookO O κ).ren g := fun κ hl => overO_hit (fun y hy e => hinj y.1 κ (by
    rw [lookO_liv (o := y.2) hy hOlive, Bool.or_true]) (by rw [hl, Bool.or_true]) e) hl
  have hη' : ∀ k, (∀ κ, (lookO O κ).live = true → g κ ≠ k) → overO g O s1.η k = s1.η k := fun k hk => overO_miss fun y hy => hk y.1 (lookO_liv (o := y.2) hy hOlive)
  have hcase : ∀ k, (∃ κ, (lookO O κ).live = true ∧ g κ = k) ∨ (∀ κ, (lookO O κ).live = true → g κ ≠ k) := fun k => by
    by_cases hx : ∃ κ, (lookO O κ).live = true ∧ g κ = k
    · exact .inl hx
    · exact .inr fun κ h1 h2 => hx ⟨κ, h1, h2⟩
  have hlive2 : ∀ k, (s1.η k).live = true → (overO g O s1.η k).live = true := fun k hk => by
    rcases hcase k with ⟨κ, h1, rfl⟩ | hk'
    · rw [hη κ h1, AO.ren_live]; exact h1
    · rw [hη' k hk']; exact hk
  have hkey : ∀ κ, ((lookO O κ).live || ((lookO I κ).live && !(lookO I κ).mine)) = true → (overO g O s1.η (g κ)).live = true := by
    intro κ hκ
    by_cases h1 : (lookO O κ).live = true
    · rw [hη κ h1, AO.ren_live]; exact h1
    · have h1' : (lookO O κ).live = false := by simpa using h1
      rw [h1'] at hκ
      simp only [Bool.false_or, Bool.and_eq_true, Bool.not_eq_true'] at hκ
      refine hlive2 _ ((hl1 _).2 ⟨hlive κ hκ.1, fun hc => ?_⟩)
      obtain ⟨y, hy, e⟩ := List.mem_map.1 hc
      obtain ⟨hy1, hy2⟩ := List.mem_filter.1 hy
      have hyl : (lookO I y.1).live = true := lookO_liv (o := y.2) hy1 fun z hz => (t2 z hz).1.1
      have := hinj y.1 κ (by rw [hyl]; rfl) (by rw [hκ.1]; rfl) e
      have h3 := hIro κ hκ.1 hκ.2
      have h4 : y.1 < 2000 := by simpa [Nat.blt_eq] using hy2
      omega
  have hs' : mAfter s g I O d x = ⟨fun t => cond (Nat.beq t d) (x.ren g) (s1.ρ t), overO g O s1.η⟩ := by rw [es1]; rfl
  rw [hs']
  have hblk : ∀ k b, (s1.η k).live = true → (∀ κ, (lookO O κ).live = true → g κ ≠ k) → blockOf (β k) = some b → ¬ mblk I (fun k => β (g k)) b := by
    intro k b hk hk' hb hc
    obtain ⟨_, _, κ, h1, h2⟩ := hmb b hc
    exact hk' κ h1 (h2 k ((hl1 k).1 hk).1 hb).symm
  have hM : ∀ b, (mblk I (fun k => β (g k)) b ∨ w.heap.size ≤ b) → may F w0 b := fun b hb => by
    rcases hb with hb | hb
    · exact (hmb b hb).2.1
    · exact .inr (Nat.le_trans h.below.size hb)
  have hobO : ∀ κ, (lookO O κ).live = true → OB C ok' β2 w' (fun b => mblk I (fun k => β (g k)) b ∨ w.heap.size ≤ b) (g κ) (overO g O s1.η (g κ)) := by
    intro κ hl
    rw [hη κ hl, OB_ren]
    refine OB_move (r.obs κ) (fun _ => b1 κ hl) (fun κ' hκ' => b4 κ' ?_) (fun _ h => h) (Stay.refl _ _) (fun _ _ _ _ => rfl) (fun _ _ _ _ h => h)
    exact (t3 _ (lookO_in hl)).2 κ' hκ'
  refine ⟨ok', β2,
    { lt := r.ok2
      new := fun b hb => by
        rcases r.ok3 b hb with h1 | h1
        · exact h.new b h1
        · exact .inr (hM b h1)
      old := fun b hb => r.ok1 b (h.old b hb)
      gx := GX_stay hC h.gx hstay h.lt r.ok1
      defers := h.defers
      size := by simp [Act.put, h.size]
      ρ := fun t => ?_
      η := fun k => ?_
      ro := fun k t y b hk hb => ?_
      dis := fun k k' b h1 h2 h3 h4 => ?_
      wf := ⟨fun t k hk => ?_, fun t k hk => ?_⟩
      below := h.below.step r.keep.os r.keep.tape r.keep.output r.keep.size fun b hb hmy => r.keep.block b hb fun hc => hmy (hmb b hc).2.1
      n2 := h.n2
      pin := fun k hk => ?_ }⟩
  · show R ok' β2 w' (cond (Nat.beq t d) (x.ren g) (s1.ρ t)) _
    rw [beq_ite, eval_put (by rw [h.size]; exact hd)]
    by_cases e : t = d
    · rw [if_pos e, if_pos e, R_ren]
      exact R_keys (fun κ hκ => b4 κ (t4 κ hκ)) r.val
    · rw [if_neg e, if_neg e]
      exact R_keys (fun k hk => b3 k (hs1.wf.ρ t k hk)) (R_stay r.ok1 hstay (hs1.ρ t))
  · show OB C ok' β2 w' _ k (overO g O s1.η k)
    rcases hcase k with ⟨κ, h1, rfl⟩ | hk'
    · exact OB_weaken hM (hobO κ h1)
    · rw [hη' k hk']
      refine OB_move (hs1.η k) (fun hl => b3 k hl) (fun k' hk2 => b3 k' (hs1.wf.η k k' hk2)) r.ok1 hstay (fun b hl hb hlt => r.keep.block b hlt (hblk k b hl hk' hb)) (fun b hl hb hlt hn hc => ?_)
      rcases r.ok3 b hc with h1 | h1 | h1
      · exact hn h1
      · exact hblk k b hl hk' hb h1
      · omega
  · have hk : overO g O s1.η k = _ := hk
    rcases hcase k with ⟨κ, h1, rfl⟩ | hk'
    · rw [hη κ h1] at hk
      have := hOmine κ h1
      rw [← AO.ren_mine _ g, hk] at this
      cases this
    · rw [hη' k hk'] at hk
      rw [b3 k (by rw [hk]; rfl)] at hb
      exact hs1.ro k t y b hk hb
  · have h1 : (overO g O s1.η k).mine = true := h1
    have h2 : (overO g O s1.η k').mine = true := h2
    have hx : ∀ κ k', (lookO O κ).live = true → (∀ κ, (lookO O κ).live = true → g κ ≠ k') → (overO g O s1.η k').mine = true → blockOf (β2 (g κ)) = some b → blockOf (β2 k') = some b → False := by
      intro κ k' hl hk' hm' hb hb'
      rw [hη' k' hk'] at hm'
      rw [b3 k' (mine_live hm')] at hb'
      have hob := hobO κ hl
      have hmn : (overO g O s1.η (g κ)).mine = true := by rw [hη κ hl, AO.ren_mine]; exact hOmine κ hl
      have hbm : mblk I (fun k => β (g k)) b ∨ w.heap.size ≤ b := by
        cases e : overO g O s1.η (g κ) with
        | no => rw [e] at hmn; cases hmn
        | var own t y =>
          rw [e] at hob hmn
          obtain ⟨b', v', q1, q2, q3, q4, q5, _⟩ := hob
          rw [q1] at hb
          have : b' = b := by simpa [blockOf] using hb
          subst this
          exact q5 hmn
        | mp t sk L =>
          rw [e] at hob
          obtain ⟨r', es, clock, q1, _, _, q4, _⟩ := hob
          rw [q1] at hb
          have : r' = b := by simpa [blockOf] using hb
          subst this
          exact q4
        | row t sz L =>
          rw [e] at hob
          obtain ⟨_, ⟨xs, q1, _⟩, q2⟩ := hob
          have hown : (β2 (g κ)).ownBlock = some b := by
            rcases q1.2 with ⟨q3, _⟩ | ⟨g', cap, cur, q3, _⟩
            · rw [q3] at hb; simp [blockOf] at hb
            · rw [q3] at hb ⊢; simpa [blockOf, Value.ownBlock] using hb
          exact (q2 b hown).2
      rcases hbm with hbm | hbm
      · exact hblk k' b (mine_live hm') hk' hb' hbm
      · have := OB_lt (hs1.η k') (mine_live hm') hb'
        omega
    rcases hcase k with ⟨κ, g1, rfl⟩ | g1 <;> rcases hcase k' with ⟨κ', g2, rfl⟩ | g2
    · rw [b1 κ g1] at h3
      rw [b1 κ' g2] at h4
      rw [r.dis κ κ' b g1 g2 h3 h4]
    · exact (hx κ k' g1 g2 h2 h3 h4).elim
    · exact (hx κ' k g2 g1 h1 h4 h3).elim
    · rw [hη' k g1] at h1
      rw [hη' k' g2] at h2
      rw [b3 k (mine_live h1)] at h3
      rw [b3 k' (mine_live h2)] at h4
      exact hs1.dis k k' b h1 h2 h3 h4
  · have hk : k ∈ (cond (Nat.beq t d) (x.ren g) (s1.ρ t)).keys := hk
    show (overO g O s1.η k).live = true
    rw [beq_ite] at hk
    split at hk
    · rw [ren_keys] at hk
      obtain ⟨κ, hκ, rfl⟩ := List.mem_map.1 hk
      exact hkey κ (t4 κ hκ)
    · exact hlive2 k (hs1.wf.ρ t k hk)
  · have hk : k ∈ (overO g O s1.η t).keys := hk
    show (overO g O s1.η k).live = true
    rcases hcase t with ⟨κ, h1, rfl⟩ | ht
    · rw [hη κ h1, AO.ren_keys] at hk
      obtain ⟨κ', hκ', rfl⟩ := List.mem_map.1 hk
      exact hkey κ' ((t3 _ (lookO_in h1)).2 κ' hκ')
    · rw [hη' t ht] at hk
      exact hlive2 k (hs1.wf.η t k hk)
  · rcases hcase k with ⟨κ, h1, rfl⟩ | hk'
    · rw [b1 κ h1]
      cases hli : (lookO I κ).live with
      | false => have := (hnew κ h1 hli).2; omega
      | true =>
        by_cases h2 : κ < 2000
        · have := hmov κ hli h2; omega
        · rw [r.pin κ (by omega) hli]
          exact h.pin _ hk
    · rw [b2 k hk']
      exact h.pin k hk
theorem op_mut (hC : CxOk C) (h : StO C n F ok0 w0 ok β s a w) (hd : ∀ d, o.dst = some d → d < n) {K' : S → Prop} (hm : MVC C o s K') (hK : ∀ s' a' w', K' s' → St C n F ok0 w0 s' a' w' → K a' w') : o.wp C.P a w K Q := by
  unfold MVC at hm
  split at hm
  · rename_i c d ho ed
    obtain ⟨callee, args, argTypes⟩ := c
    simp only at hm
    split at hm
    · rename_i f
      split at hm
      · rename_i f' caps ef
        rw [SV.forceL_eq] at hm
        obtain ⟨s', hm, hk⟩ := hm
        rw [S.force_eq] at hk
        have hrf := ev_R h f
        rw [ef, R] at hrf
        obtain ⟨vcaps, e1, hcaps⟩ := hrf
        have hargs : RL ok β w (args.toList.map s.ev ++ caps) (args.toList.map a.eval ++ vcaps) := by
          refine RL_append ?_ hcaps
          induction args.toList with
          | nil => trivial
          | cons x l ih => exact ⟨ev_R h x, ih⟩
        obtain ⟨⟨fn, hf1, hf2, hf3⟩, hcall⟩ := mcall_sound hC h (hd d ed) hm hargs
        have hexec : (execOp a.eval o).run C.P w = .ok (.enter f' (args.toList.map a.eval ++ vcaps).toArray) w := by
          have harr : args.map a.eval ++ vcaps.toArray = (args.toList.map a.eval ++ vcaps).toArray := by
            apply Array.ext'
            simp
          simp only [execOp, ho, resolve, Sem.run_bind, e1, Deferred.ofValue, Sem.run_pure, Result.andThen_ok, invoke, callFunc, run_program, hf1, hf2, hf3]
          simp [harr]
        unfold Oper.wp
        rw [hexec, Oper.upon_enter]
        refine hcall.mono ?_
        rintro e w' ⟨v, rfl, hst⟩
        show K (a.put o.dst v) w'
        rw [ed]
        exact hK _ _ _ hk hst
      · exact hm.elim
    · exact hm.elim
  · exact hm.elim
end
end Go.Vc
