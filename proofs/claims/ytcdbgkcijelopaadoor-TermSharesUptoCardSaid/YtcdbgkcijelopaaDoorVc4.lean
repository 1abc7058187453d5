/- A calculus of verification conditions, part 4: what each operation does to the state of a walk. -/
import Derived.Test.YtcdbgkcijelopaaDoorVc3
set_option linter.unusedVariables false
namespace Go.Vc
open Go Go.RowKit

section
variable {C : Cx} {n : Nat} {F : Fm} {ok0 : Nat → Prop} {w0 : World} {ok : Nat → Prop} {β : Nat → Value} {s : S} {a : Act} {w : World}

theorem own_same {w w' : World} {base : Nat} {e : TypeId} {size m : Nat} {v : Value} {xs : List Value} (h : w.ownsRow base e size v m xs) (hb : ∀ b, v.ownBlock = some b → w'.heap[b]? = w.heap[b]?) : w'.ownsRow base e size v m xs := by
  obtain ⟨h1, h2⟩ := h
  refine ⟨h1, ?_⟩
  rcases h2 with h2 | ⟨g, cap, cur, rfl, hg, hh, r⟩
  · exact .inl h2
  · exact .inr ⟨g, cap, cur, rfl, hg, by rw [hb g rfl]; exact hh, r⟩
theorem RRow_stay {ok ok' : Nat → Prop} {w w' : World} (hok : ∀ b, ok b → ok' b) (hs : Stay ok w w') {sz : Nat} {L : List PV} {xs : List Value} (h : RRow ok w sz L xs) : RRow ok' w' sz L xs :=
  ⟨h.1, fun i x hx => by
    obtain ⟨c, h1, h2⟩ := h.2 i x hx
    exact ⟨c, RP_stay hok hs h1, h2⟩⟩
theorem ownBlock_blockOf {v : Value} {b : Nat} (h : v.ownBlock = some b) : blockOf v = some b := by
  cases v <;> simp_all [Value.ownBlock]
  rename_i a _ _
  cases a <;> simp_all [blockOf]
/-- An object as it stands, in a later world. -/
theorem OB_move {ok ok' : Nat → Prop} {β β' : Nat → Value} {w w' : World} {M : Nat → Prop} {κ : Nat} {o : AO} (h : OB C ok β w M κ o) (hβ : o.live = true → β' κ = β κ) (hk : ∀ κ' ∈ o.keys, β' κ' = β κ')
    (hok : ∀ b, ok b → ok' b) (hs : Stay ok w w') (hb : ∀ b, o.live = true → blockOf (β κ) = some b → b < w.heap.size → w'.heap[b]? = w.heap[b]?) (hn : ∀ b, o.live = true → blockOf (β κ) = some b → b < w.heap.size → ¬ ok b → ¬ ok' b) : OB C ok' β' w' M κ o := by
  cases o with
  | no => trivial
  | var own t x =>
    obtain ⟨b, v, h1, h2, h3, h4, h5, h6⟩ := h
    have hlt : b < w.heap.size := (Array.getElem?_eq_some_iff.1 h2).1
    have hbo : blockOf (β κ) = some b := by rw [h1]; rfl
    exact ⟨b, v, by rw [hβ rfl]; exact h1, by rw [hb b rfl hbo hlt]; exact h2, R_keys hk (R_stay hok hs h3), hn b rfl hbo hlt h4, h5, h6⟩
  | mp t sk L =>
    obtain ⟨r, es, clock, h1, h2, h3, h4, h5, h6, h7⟩ := h
    have hlt : r < w.heap.size := (Array.getElem?_eq_some_iff.1 h2).1
    have hbo : blockOf (β κ) = some r := by rw [h1]; rfl
    exact ⟨r, es, clock, by rw [hβ rfl]; exact h1, by rw [hb r rfl hbo hlt]; exact h2, hn r rfl hbo hlt h3, h4, h5, RPL_stay hok hs h6, h7⟩
  | row t sz L =>
    obtain ⟨h0, ⟨xs, h1, h2⟩, h3⟩ := h
    refine ⟨h0, ⟨xs, ?_, RRow_stay hok hs h2⟩, ?_⟩
    · rw [hβ rfl]
      refine own_same h1 fun b hb' => hb b rfl (ownBlock_blockOf hb') (h1.lt b hb').2
    · rw [hβ rfl]
      intro k hk'
      exact ⟨hn k rfl (ownBlock_blockOf hk') (h1.lt k hk').2 (h3 k hk').1, (h3 k hk').2⟩
theorem OB_lt {κ : Nat} {M : Nat → Prop} {o : AO} (h : OB C ok β w M κ o) (hl : o.live = true) {b : Nat} (hb : blockOf (β κ) = some b) : b < w.heap.size := by
  cases o with
  | no => simp [AO.live] at hl
  | var own t x =>
    obtain ⟨b', v, h1, h2, _⟩ := h
    rw [h1] at hb
    have : b' = b := by simpa [blockOf] using hb
    subst this
    exact (Array.getElem?_eq_some_iff.1 h2).1
  | mp t sk L =>
    obtain ⟨r, es, clock, h1, h2, _⟩ := h
    rw [h1] at hb
    have : r = b := by simpa [blockOf] using hb
    subst this
    exact (Array.getElem?_eq_some_iff.1 h2).1
  | row t sz L =>
    obtain ⟨_, ⟨xs, h1, _⟩, _⟩ := h
    have hs : ∃ A m c, β κ = .slice A m c := by
      rcases h1.2 with ⟨h1, _⟩ | ⟨g, cap, cur, h1, _⟩
      · exact ⟨_, _, _, h1⟩
      · exact ⟨_, _, _, h1⟩
    obtain ⟨A, m, c, e⟩ := hs
    refine (h1.lt b ?_).2
    rw [e] at hb ⊢
    cases A with
    | none => simp [blockOf] at hb
    | some ad => simpa [blockOf, Value.ownBlock] using hb
theorem mine_live {o : AO} (h : o.mine = true) : o.live = true := by cases o <;> simp_all [AO.mine, AO.live]
theorem GX_stay {ok ok' : Nat → Prop} {w w' : World} (hC : CxOk C) (h : GX C ok w) (hs : Stay ok w w') (hlt : ∀ b, ok b → b < w.heap.size) (hok : ∀ b, ok b → ok' b) : GX C ok' w' :=
  ⟨hC.x ok ok' w w' h.1 hok hs hlt, fun g L hg => by
    obtain ⟨sz, h2⟩ := h.2 g L hg
    exact ⟨sz, RPE_stay hok hs h2⟩⟩
theorem Keep.refl (F : Fm) (w : World) : Keep F w w := ⟨rfl, rfl, rfl, Nat.le_refl _, fun _ _ _ => rfl⟩
theorem Keep.step {F : Fm} {w0 w w' : World} (h : Keep F w0 w) (h1 : w'.os = w.os) (h2 : w'.tape = w.tape) (h3 : w'.output = w.output) (h4 : w.heap.size ≤ w'.heap.size)
    (h5 : ∀ b, b < w.heap.size → ¬ may F w0 b → w'.heap[b]? = w.heap[b]?) : Keep F w0 w' :=
  ⟨h1.trans h.os, h2.trans h.tape, h3.trans h.output, Nat.le_trans h.size h4, fun b hb hm => (h5 b (Nat.lt_of_lt_of_le hb h.size) (fun hc => by
    rcases hc with hc | hc
    · exact hm hc
    · omega)).trans (h.block b hb hm)⟩
theorem Keep.grown {F : Fm} {w0 w w' : World} {row : Option Nat} (h : Keep F w0 w) (hg : w.grownBy w' row) (hr : ∀ k, row = some k → may F w0 k) : Keep F w0 w' :=
  h.step hg.os hg.tape hg.output hg.size fun b hb hm => hg.block b hb fun e => hm (hr b e.symm)
theorem below_w {F : Fm} {w0 w w' : World} (h : Keep F w0 w) (hb : Below w.heap.size w w') : Keep F w0 w' := h.step hb.os hb.tape hb.output hb.size fun b hlt _ => hb.block b hlt

/-- A new variable of one's own. -/
theorem StO.alloc (hC : CxOk C) (h : StO C n F ok0 w0 ok β s a w) {d : Nat} (hd : d < n) (hno : s.η d = .no) {t : Nat} {y : SV} {v : Value} (hr : R ok β w y v) (h1 : ∀ u ∈ v.cells.toList, one u)
    (ht : ∀ ti, C.T t = some ti → v.cells.size = ti.sz ∧ (ti.agg = true → v = .agg v.cells) ∧ (ti.agg = false → one v)) (hk : ∀ κ ∈ y.keys, (s.η κ).live = true) :
    StO C n F ok0 w0 ok (fun k => if k = d then .pointer (some ⟨w.heap.size, 0, none⟩) else β k) ((s.set d (.var true t y)).put d (.ptr d 0)) (a.put (some d) (.pointer (some ⟨w.heap.size, 0, none⟩))) (w.alloc (.cells v.cells t)) := by
  have hb : Below w.heap.size w (w.alloc (.cells v.cells t)) := (Below.refl _ _).alloc (Nat.le_refl _) _
  have hst : Stay ok w (w.alloc (.cells v.cells t)) := fun b _ hlt => hb.block b hlt
  have hkd : ∀ x : SV, (∀ κ ∈ x.keys, (s.η κ).live = true) → ∀ κ ∈ x.keys, (if κ = d then Value.pointer (some ⟨w.heap.size, 0, none⟩) else β κ) = β κ := by
    intro x hx κ hκ
    have := hx κ hκ
    rw [if_neg]
    rintro rfl
    rw [hno] at this
    simp [AO.live] at this
  have hkd2 : ∀ κ, (s.η κ).live = true → κ ≠ d := by
    rintro κ hl rfl
    rw [hno] at hl
    simp [AO.live] at hl
  refine
    { lt := fun b hb' => by have := h.lt b hb'; simp; omega
      new := h.new
      old := h.old
      gx := GX_stay hC h.gx hst h.lt fun _ h => h
      defers := h.defers
      size := by simp [Act.put, h.size]
      ρ := ?_
      η := ?_
      ro := ?_
      dis := ?_
      wf := ?_
      below := below_w h.below hb
      n2 := h.n2
      pin := fun κ hκ => by show (if κ = d then _ else β κ) = _; have := h.n2; rw [if_neg (by omega)]; exact h.pin κ hκ }
  · intro t'
    rw [S.put_ρ, eval_put (by rw [h.size]; exact hd)]
    by_cases e : t' = d
    · rw [if_pos e, if_pos e, R]
      exact ⟨w.heap.size, if_pos rfl, rfl⟩
    · rw [if_neg e, if_neg e]
      exact R_keys (hkd _ (h.wf.ρ t')) (R_stay (fun _ h => h) hst (h.ρ t'))
  · intro κ
    show OB C ok _ _ _ κ ((s.set d _).η κ)
    rw [S.set_η]
    by_cases e : κ = d
    · rw [if_pos e]
      subst e
      refine ⟨w.heap.size, v, if_pos rfl, ?_, R_keys (hkd _ hk) (R_stay (fun _ h => h) hst hr), fun hc => ?_, fun _ => .inr h.below.size, h1, ht⟩
      · exact heap_alloc_new w _
      · have := h.lt _ hc; omega
    · rw [if_neg e]
      refine OB_move (h.η κ) (fun _ => if_neg e) (fun κ' hκ' => if_neg (hkd2 κ' (h.wf.η κ κ' hκ'))) (fun _ h => h) hst (fun b _ _ hlt => hb.block b hlt) (fun b _ _ _ hn => hn)
  · intro κ t' x b hη hbk
    change (s.set d _).η κ = _ at hη
    rw [S.set_η] at hη
    by_cases e : κ = d
    · rw [if_pos e] at hη; injection hη with hη; cases hη
    · rw [if_neg e] at hη
      rw [if_neg e] at hbk
      exact h.ro κ t' x b hη hbk
  · intro κ κ' b hm hm' hbk hbk'
    change ((s.set d _).η κ).mine = true at hm
    change ((s.set d _).η κ').mine = true at hm'
    rw [S.set_η] at hm hm'
    by_cases e : κ = d <;> by_cases e' : κ' = d
    · rw [e, e']
    · rw [if_pos e] at hbk
      rw [if_neg e'] at hbk' hm'
      have h1 := OB_lt (h.η κ') (mine_live hm') hbk'
      simp [blockOf] at hbk
      omega
    · rw [if_pos e'] at hbk'
      rw [if_neg e] at hbk hm
      have h1 := OB_lt (h.η κ) (mine_live hm) hbk
      simp [blockOf] at hbk'
      omega
    · rw [if_neg e] at hbk hm
      rw [if_neg e'] at hbk' hm'
      exact h.dis κ κ' b hm hm' hbk hbk'
  · have hl : ∀ κ, (s.η κ).live = true → ((s.set d (.var true t y)).η κ).live = true := by
      intro κ hκ
      rw [S.set_η, if_neg (hkd2 κ hκ)]
      exact hκ
    refine WF.put ⟨fun t' κ hκ => hl κ (h.wf.ρ t' κ hκ), fun t' κ hκ => ?_⟩ ?_
    · rw [S.set_η] at hκ
      split at hκ
      · exact hl κ (hk κ hκ)
      · exact hl κ (h.wf.η t' κ hκ)
    · intro κ hκ
      simp [SV.keys] at hκ
      subst hκ
      rw [S.set_η, if_pos rfl]
      rfl
end
end Go.Vc
