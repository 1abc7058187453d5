/- A calculus of verification conditions, part 9: rows. -/
import Derived.Test.YtcdbgkcijelopaaDoorVc8
import Derived.Laws.OwnMore
set_option linter.unusedVariables false
namespace Go.Vc
open Go Go.RowKit

section
variable {C : Cx} {n : Nat} {F : Fm} {ok0 : Nat → Prop} {w0 : World} {ok : Nat → Prop} {β : Nat → Value} {s : S} {a : Act} {w : World} {own : Nat → Bool} {o : Oper} {k : U → Prop} {K : Act → World → Prop} {Q : Exit → Act → World → Prop}

/-- A row that is never written again reads as a list. -/
theorem row_lst {ok ok' : Nat → Prop} {base t sz : Nat} {v : Value} {L : List PV} {xs : List Value} (h : w.ownsRow base t sz v L.length xs) (hr : RRow ok w sz L xs) (hok : ∀ b, ok b → ok' b) (hb : ∀ b, v.ownBlock = some b → ok' b) : RP ok' w (.lst L) v := by
  rw [RP]
  rcases h.2 with ⟨rfl, h0⟩ | ⟨g, cap, cur, rfl, hg, hh, h1, h2, h3, h4⟩
  · have : L = [] := List.eq_nil_of_length_eq_zero h0
    subst this
    exact ⟨none, 0, sz, rfl, Nat.le_refl _, by simp [maxLen], trivial⟩
  · refine ⟨_, cap, sz, rfl, h1, h2, RPE_of fun i x hx => ?_⟩
    obtain ⟨c, hc, he⟩ := hr.2 i x hx
    have hlt : i < L.length := (List.getElem?_eq_some_iff.1 hx).1
    have hmul : i * sz + sz ≤ L.length * sz := by
      rw [← Nat.succ_mul]
      exact Nat.mul_le_mul_right _ hlt
    have hsz : c.cells.size = sz := by
      have := congrArg List.length he
      rw [List.length_take, List.length_drop, hr.1] at this
      simp at this
      omega
    refine ⟨_, c, rfl, hb g rfl, RP_stay hok (Stay.refl _ _) hc, hsz, fun j u hj => ?_⟩
    rw [add_plain]
    simp only [World.cell?, hh]
    have hj' : c.cells.toList[j]? = some u := by simpa using hj
    rw [he] at hj'
    have h5 := getElem?_sub hj'
    rw [← h4, List.getElem?_take] at h5
    split at h5
    · simpa using h5
    · cases h5
/-- The world goes on; what the walk leans on has not turned. -/
theorem StO.world (hC : CxOk C) (h : StO C n F ok0 w0 ok β s a w) {w' : World} {ok' : Nat → Prop} (hbel : Keep F w0 w') (hsz : w.heap.size ≤ w'.heap.size)
    (hkeep : ∀ b, b < w.heap.size → (ok b ∨ ∃ κ, (s.η κ).live = true ∧ blockOf (β κ) = some b) → w'.heap[b]? = w.heap[b]?) (hok : ∀ b, ok b → ok' b)
    (hok' : ∀ b, ok' b → ok b ∨ (b < w'.heap.size ∧ may F w0 b ∧ ∀ κ, (s.η κ).live = true → blockOf (β κ) ≠ some b)) : StO C n F ok0 w0 ok' β s a w' := by
  have hst : Stay ok w w' := fun b hb hlt => hkeep b hlt (.inl hb)
  exact
    { lt := fun b hb => by
        rcases hok' b hb with h1 | h1
        · exact Nat.lt_of_lt_of_le (h.lt b h1) hsz
        · exact h1.1
      new := fun b hb => by
        rcases hok' b hb with h1 | h1
        · exact h.new b h1
        · exact .inr h1.2.1
      old := fun b hb => hok b (h.old b hb)
      gx := GX_stay hC h.gx hst h.lt hok
      defers := h.defers
      size := h.size
      ρ := fun t => R_stay hok hst (h.ρ t)
      η := fun κ => OB_move (h.η κ) (fun _ => rfl) (fun _ _ => rfl) hok hst (fun b hl hb hlt => hkeep b hlt (.inr ⟨κ, hl, hb⟩)) (fun b hl hb hlt hn hc => by
        rcases hok' b hc with h1 | h1
        · exact hn h1
        · exact h1.2.2 κ hl hb)
      ro := h.ro
      dis := h.dis
      wf := h.wf
      below := hbel
      n2 := h.n2
      pin := h.pin }
/-- A row that has been made is one's own. -/
theorem StO.addrow (h : StO C n F ok0 w0 ok β s a w) {d q : Nat} (hd : d < n) (hq : q < 2000) (hno : s.η q = .no) {t sz : Nat} {L : List PV} {v : Value} {xs : List Value} (h0 : 0 < sz) (hrow : w.ownsRow 0 t sz v L.length xs) (hr : RRow ok w sz L xs)
    (hb : ∀ b, v.ownBlock = some b → ¬ ok b ∧ may F w0 b ∧ ∀ κ, (s.η κ).live = true → blockOf (β κ) ≠ some b) :
    StO C n F ok0 w0 ok (fun k => if k = q then v else β k) ((s.set q (.row t sz L)).put d (.slc q)) (a.put (some d) v) w := by
  have hkd2 : ∀ κ, (s.η κ).live = true → κ ≠ q := by
    rintro κ hl rfl
    rw [hno] at hl
    simp [AO.live] at hl
  have hsl : ∃ A m c, v = .slice A m c := by
    rcases hrow.2 with ⟨h1, _⟩ | ⟨g, cap, cur, h1, _⟩
    · exact ⟨_, _, _, h1⟩
    · exact ⟨_, _, _, h1⟩
  have hvb : ∀ b, blockOf v = some b → v.ownBlock = some b := by
    intro b hb'
    obtain ⟨A, m, c, rfl⟩ := hsl
    cases A with
    | none => simp [blockOf] at hb'
    | some ad => simpa [blockOf, Value.ownBlock] using hb'
  refine { h with
      defers := h.defers
      size := by simp [Act.put, h.size]
      ρ := ?_
      η := ?_
      ro := ?_
      dis := ?_
      wf := ?_
      pin := fun κ hκ => by show (if κ = q then v else β κ) = _; rw [if_neg (by omega)]; exact h.pin κ hκ }
  · intro t'
    rw [S.put_ρ, eval_put (by rw [h.size]; exact hd)]
    by_cases e : t' = d
    · rw [if_pos e, if_pos e, R, if_pos rfl]
      exact ⟨rfl, by obtain ⟨A, m, c, rfl⟩ := hsl; rfl⟩
    · rw [if_neg e, if_neg e]
      exact R_keys (fun κ hκ => if_neg (hkd2 κ (h.wf.ρ t' κ hκ))) (h.ρ t')
  · intro κ
    show OB C ok _ _ _ κ ((s.set q _).η κ)
    rw [S.set_η]
    by_cases e : κ = q
    · rw [if_pos e]
      subst e
      refine ⟨h0, ⟨xs, by simpa using hrow, hr⟩, ?_⟩
      intro b hb'
      exact ⟨(hb b (by simpa using hb')).1, (hb b (by simpa using hb')).2.1⟩
    · rw [if_neg e]
      exact OB_move (h.η κ) (fun _ => if_neg e) (fun κ' hκ' => if_neg (hkd2 κ' (h.wf.η κ κ' hκ'))) (fun _ h => h) (Stay.refl _ _) (fun b _ _ hlt => rfl) (fun b _ _ _ hn => hn)
  · intro κ t' x b hη hbk
    change (s.set q _).η κ = _ at hη
    rw [S.set_η] at hη
    by_cases e : κ = q
    · rw [if_pos e] at hη; cases hη
    · rw [if_neg e] at hη
      rw [if_neg e] at hbk
      exact h.ro κ t' x b hη hbk
  · intro κ κ' b hm hm' hbk hbk'
    change ((s.set q _).η κ).mine = true at hm
    change ((s.set q _).η κ').mine = true at hm'
    rw [S.set_η] at hm hm'
    by_cases e : κ = q <;> by_cases e' : κ' = q
    · rw [e, e']
    · rw [if_pos e] at hbk
      rw [if_neg e'] at hbk' hm'
      exact absurd hbk' ((hb b (hvb b hbk)).2.2 κ' (mine_live hm'))
    · rw [if_pos e'] at hbk'
      rw [if_neg e] at hbk hm
      exact absurd hbk ((hb b (hvb b hbk')).2.2 κ (mine_live hm))
    · rw [if_neg e] at hbk hm
      rw [if_neg e'] at hbk' hm'
      exact h.dis κ κ' b hm hm' hbk hbk'
  · have hl : ∀ κ, (s.η κ).live = true → ((s.set q (.row t sz L)).η κ).live = true := by
      intro κ hκ
      rw [S.set_η, if_neg (hkd2 κ hκ)]
      exact hκ
    refine WF.put ⟨fun t' κ hκ => hl κ (h.wf.ρ t' κ hκ), fun t' κ hκ => ?_⟩ ?_
    · rw [S.set_η] at hκ
      split at hκ
      · simp [AO.keys] at hκ
      · exact hl κ (h.wf.η t' κ hκ)
    · intro κ hκ
      simp [SV.keys] at hκ
      subst hκ
      rw [S.set_η, if_pos rfl]
      rfl
mutual
theorem men_keys : ∀ (x : SV) (κ : Nat), x.men κ = false → κ ∉ x.keys
  | .no, κ, _ => by simp [SV.keys]
  | .p _, κ, _ => by simp [SV.keys]
  | .elt _, κ, _ => by simp [SV.keys]
  | .eltF _ _, κ, _ => by simp [SV.keys]
  | .glob _, κ, _ => by simp [SV.keys]
  | .nilQ _, κ, _ => by simp [SV.keys]
  | .ptr κ' _, κ, h => by
    simp only [SV.keys, List.mem_singleton]
    rintro rfl
    simp [SV.men] at h
  | .slc κ', κ, h => by
    simp only [SV.keys, List.mem_singleton]
    rintro rfl
    simp [SV.men] at h
  | .rowE κ' _ _, κ, h => by
    simp only [SV.keys, List.mem_singleton]
    rintro rfl
    simp [SV.men] at h
  | .fn _ caps, κ, h => by simpa [SV.keys] using menL_keys caps κ (by simpa [SV.men] using h)
  | .mix cs, κ, h => by simpa [SV.keys] using menL_keys cs κ (by simpa [SV.men] using h)
  | .tupS cs, κ, h => by simpa [SV.keys] using menL_keys cs κ (by simpa [SV.men] using h)
theorem menL_keys : ∀ (l : List SV) (κ : Nat), SV.menL κ l = false → κ ∉ SV.keysL l
  | [], κ, _ => by simp [SV.keysL]
  | x :: xs, κ, h => by
    simp only [SV.menL, Bool.or_eq_false_iff] at h
    simp only [SV.keysL, List.mem_append, not_or]
    exact ⟨men_keys x κ h.1, menL_keys xs κ h.2⟩
end
theorem purgeC_keys {x : SV} {κ κ' : Nat} (h : κ' ∈ (cond (x.men κ) SV.no x).keys) : κ' ∈ x.keys ∧ κ' ≠ κ := by
  cases e : x.men κ with
  | true => rw [e] at h; simp [SV.keys] at h
  | false =>
    rw [e] at h
    refine ⟨h, ?_⟩
    rintro rfl
    exact men_keys x κ' e h
theorem purgeL_keys {κ κ' : Nat} : ∀ {cs : List SV}, κ' ∈ SV.keysL (cs.map fun x => cond (x.men κ) SV.no x) → κ' ∈ SV.keysL cs ∧ κ' ≠ κ
  | [], h => by simp [SV.keysL] at h
  | x :: cs, h => by
    simp only [List.map_cons, SV.keysL, List.mem_append] at h ⊢
    rcases h with h | h
    · exact ⟨.inl (purgeC_keys h).1, (purgeC_keys h).2⟩
    · exact ⟨.inr (purgeL_keys h).1, (purgeL_keys h).2⟩
theorem purge_keys {x : SV} {κ κ' : Nat} (h : κ' ∈ (x.purge κ).keys) : κ' ∈ x.keys ∧ κ' ≠ κ := by
  cases x with
  | mix cs => exact purgeL_keys (by simpa only [SV.purge, SV.keys] using h)
  | _ => exact purgeC_keys h
theorem purgeC_R {x : SV} {κ : Nat} {v : Value} (h : R ok β w x v) : R ok β w (cond (x.men κ) SV.no x) v := by
  cases x.men κ with
  | true => trivial
  | false => exact h
theorem purgeL_R {κ : Nat} : ∀ {cs : List SV} {vs : List Value}, RL ok β w cs vs → RL ok β w (cs.map fun x => cond (x.men κ) SV.no x) vs
  | [], [], h => trivial
  | [], _ :: _, h => h.elim
  | _ :: _, [], h => h.elim
  | x :: cs, v :: vs, h => ⟨purgeC_R h.1, purgeL_R h.2⟩
theorem purge_R {x : SV} {κ : Nat} {v : Value} (h : R ok β w x v) : R ok β w (x.purge κ) v := by
  cases x with
  | mix cs =>
    rw [R] at h
    obtain ⟨vs, h1, h2, h3⟩ := h
    show R ok β w (.mix _) v
    rw [R]
    exact ⟨vs, h1, h2, purgeL_R h3⟩
  | _ => exact purgeC_R (κ := κ) h
theorem kill_live {κ κ' : Nat} : ((s.kill κ).η κ').live = true ↔ (s.η κ').live = true ∧ κ' ≠ κ := by
  show AO.live (cond (Nat.beq κ' κ) .no ((s.η κ').purge κ)) = true ↔ _
  rw [beq_ite]
  split
  · rename_i e; simp [AO.live, e]
  · rename_i e
    cases s.η κ' <;> simp [AO.purge, AO.live, e]
/-- An object that is no more spoken of. -/
theorem StO.kill (h : StO C n F ok0 w0 ok β s a w) (κ : Nat) : StO C n F ok0 w0 ok β (s.kill κ) a w := by
  refine { h with
      defers := h.defers
      ρ := fun t => purge_R (h.ρ t)
      η := ?_
      ro := ?_
      dis := ?_
      wf := ?_ }
  · intro κ'
    show OB C ok _ _ _ κ' (cond (Nat.beq κ' κ) .no ((s.η κ').purge κ))
    rw [beq_ite]
    split
    · trivial
    · have := h.η κ'
      cases e : s.η κ' with
      | no => trivial
      | row t sz L => rw [e] at this; exact this
      | mp t sk L => rw [e] at this; exact this
      | var own t x =>
        rw [e] at this
        obtain ⟨b, v, h1, h2, h3, h4⟩ := this
        exact ⟨b, v, h1, h2, purge_R h3, h4⟩
  · intro κ' t x b hη hb
    change cond (Nat.beq κ' κ) .no ((s.η κ').purge κ) = _ at hη
    rw [beq_ite] at hη
    split at hη
    · cases hη
    · cases e : s.η κ' with
      | no => rw [e] at hη; cases hη
      | row t sz L => rw [e] at hη; cases hη
      | mp t sk L => rw [e] at hη; cases hη
      | var own t' x' =>
        rw [e] at hη
        simp only [AO.purge, AO.var.injEq] at hη
        obtain ⟨rfl, rfl, _⟩ := hη
        exact h.ro κ' _ _ b e hb
  · have hm : ∀ q, ((s.kill κ).η q).mine = true → (s.η q).mine = true := by
      intro q hq
      change AO.mine (cond (Nat.beq q κ) .no ((s.η q).purge κ)) = true at hq
      rw [beq_ite] at hq
      split at hq
      · simp [AO.mine] at hq
      · cases e : s.η q <;> simp_all [AO.purge, AO.mine]
    exact fun q q' b h1 h2 h3 h4 => h.dis q q' b (hm q h1) (hm q' h2) h3 h4
  · refine ⟨fun t q hq => ?_, fun t q hq => ?_⟩
    · obtain ⟨h1, h2⟩ := purge_keys hq
      exact kill_live.2 ⟨h.wf.ρ t q h1, h2⟩
    · change q ∈ AO.keys (cond (Nat.beq t κ) .no ((s.η t).purge κ)) at hq
      rw [beq_ite] at hq
      split at hq
      · simp [AO.keys] at hq
      · cases e : s.η t with
        | no => rw [e] at hq; simp [AO.purge, AO.keys] at hq
        | row t sz L => rw [e] at hq; simp [AO.purge, AO.keys] at hq
        | mp t sk L => rw [e] at hq; simp [AO.purge, AO.keys] at hq
        | var own t' x' =>
          rw [e] at hq
          obtain ⟨h1, h2⟩ := purge_keys (x := x') hq
          exact kill_live.2 ⟨h.wf.η t q (by rw [e]; exact h1), h2⟩
end
end Go.Vc
