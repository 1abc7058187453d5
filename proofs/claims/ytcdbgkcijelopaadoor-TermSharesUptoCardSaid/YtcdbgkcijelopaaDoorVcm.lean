/- A calculus of verification conditions, part 16b: a drawn region of which several orders are walked. -/
import Derived.Test.YtcdbgkcijelopaaDoorVci
set_option linter.unusedVariables false
namespace Go.Vc
open Go Go.RowKit

section
variable {C : Cx} {own : Nat → Bool} {ops : Array Oper} {n : Nat} {F : Fm} {ok0 : Nat → Prop} {w0 : World}
theorem okT_front (hC : CxOk C) {P : List Nat} (hds : ∀ o ∈ ops.toList, ∀ d, o.dst = some d → d < n) {b : List Nat} {K : S → Prop} : ∀ (t : Tr) (full : Bool) (rem : List Nat) (y : Nat) (x : Oper), rem.Nodup → y ∈ rem → ops[y]? = some x → (∀ i ∈ rem, (b.getD y 0).testBit i = false) →
    (full = false → y ∈ t.heads) → okT own P ops b full rem t = true →
    ∃ t', okT own P ops b true (rem.erase y) t' = true ∧ ∀ (s : S) (a : Act) (w : World), Inv P s → St C n F ok0 w0 s a w → vcTr C own P ops t K s → vcOps C own P ops [x] (vcTr C own P ops t' K) s
  | .fin, full, rem, y, x, hnd, hy, hx, hr, hh, h => by
    simp only [okT, Bool.and_eq_true, List.isEmpty_iff] at h
    rw [h.2] at hy
    cases hy
  | .one i t, full, rem, y, x, hnd, hy, hx, hr, hh, h => by
    simp only [okT, Bool.and_eq_true] at h
    obtain ⟨⟨h1, h2⟩, h3⟩ := h
    by_cases e : y = i
    · subst e
      refine ⟨t, h3, fun s a w hI hst hv => ?_⟩
      simp only [vcTr] at hv
      obtain ⟨o, ho, hv⟩ := (opAt_eq _ _ _).1 hv
      have : o = x := by simpa [hx] using ho.symm
      rw [← this]
      exact hv
    · cases full with
      | false => exact absurd (by simpa [Tr.heads] using hh rfl) e
      | true =>
        simp only [Bool.not_true, Bool.false_or] at h2
        have h2 := List.all_eq_true.1 h2
        have hi : i ∈ rem := by simpa using h1
        obtain ⟨t2, g1, g2⟩ := okT_front hC hds t true (rem.erase i) y x (hnd.erase i) ((hnd.mem_erase_iff).2 ⟨e, hy⟩) hx (fun j hj => hr j (List.mem_of_mem_erase hj)) (by intro h; cases h) h3
        refine ⟨.one i t2, ?_, fun s a w hI hst hv => ?_⟩
        · simp only [okT, Bool.and_eq_true]
          refine ⟨⟨by simpa using (hnd.mem_erase_iff).2 ⟨fun e' => e e'.symm, hi⟩, ?_⟩, by rw [List.erase_comm]; exact g1⟩
          simp only [Bool.not_true, Bool.false_or]
          exact List.all_eq_true.2 fun j hj => h2 j (List.mem_of_mem_erase hj)
        · have hsw := h2 y hy
          have he : Nat.beq y i = false := by rw [← Bool.not_eq_true, Nat.beq_eq]; exact e
          rw [he, hr i hi] at hsw
          simp only [Bool.false_or, hx] at hsw
          cases eo : ops[i]? with
          | none => rw [eo] at hsw; cases hsw
          | some o =>
            rw [eo] at hsw
            simp only at hsw
            simp only [vcTr] at hv ⊢
            obtain ⟨o', ho', hv⟩ := (opAt_eq _ _ _).1 hv
            obtain rfl : o = o' := by simpa [eo] using ho'
            have hom : o ∈ ops.toList := List.mem_of_getElem? (i := i) (by simpa using eo)
            obtain ⟨u, hK, hI', hself⟩ := one_u hsw hI hv
            obtain ⟨s1, a1, w1, rfl, hst1⟩ := op_exists hC (hds o hom) (hself (fun s1 => s1 = s.app o.dst u) rfl) hI hst
            have ih := g2 _ a1 w1 hI' hst1 hK
            have hwf : WF s := by obtain ⟨ok, β, h⟩ := hst; exact h.wf
            have hend := vc_sw hsw hwf hI (hself _ ih)
            have e2 : vcTr C own P ops (.one i t2) K = vcOps C own P ops [o] (vcTr C own P ops t2 K) := by
              funext s
              simp only [vcTr]
              exact propext ((opAt_eq _ _ _).trans ⟨fun ⟨o2, h1, h2⟩ => by rw [ho'] at h1; cases h1; exact h2, fun h => ⟨o, ho', h⟩⟩)
            rw [show (fun s => opAt ops.toList i fun o => vcOps C own P ops [o] (vcTr C own P ops t2 K) s) = vcOps C own P ops [o] (vcTr C own P ops t2 K) from e2]
            exact hend
  | .alt p q, full, rem, y, x, hnd, hy, hx, hr, hh, h => by
    simp only [okT, Bool.and_eq_true] at h
    obtain ⟨⟨h1, h2⟩, h3⟩ := h
    have hm : y ∈ p.heads ++ q.heads := by
      cases full with
      | false => exact hh rfl
      | true =>
        simp only [Bool.not_true, Bool.false_or] at h1
        have h1 := List.all_eq_true.1 h1 y hy
        rw [Bool.or_eq_true] at h1
        rcases h1 with h1 | h1
        · simpa using h1
        · rw [List.any_eq_true] at h1
          obtain ⟨i, hi, h1⟩ := h1
          rw [hr i hi] at h1
          cases h1
    rcases List.mem_append.1 hm with hm | hm
    · obtain ⟨t', g1, g2⟩ := okT_front hC hds p false rem y x hnd hy hx hr (fun _ => hm) h2
      exact ⟨t', g1, fun s a w hI hst hv => g2 s a w hI hst hv.1⟩
    · obtain ⟨t', g1, g2⟩ := okT_front hC hds q false rem y x hnd hy hx hr (fun _ => hm) h3
      exact ⟨t', g1, fun s a w hI hst hv => g2 s a w hI hst hv.2⟩
theorem okT_nil {P : List Nat} {b : List Nat} {K : S → Prop} {t : Tr} (h : okT own P ops b true [] t = true) {s : S} (hv : vcTr C own P ops t K s) : K s := by
  have key : ∀ (t : Tr) (full : Bool), okT own P ops b full [] t = true → vcTr C own P ops t K s → K s := by
    intro t
    induction t with
    | fin => intro full h hv; exact hv
    | one i t ih => intro full h hv; simp [okT] at h
    | alt p q ih1 ih2 =>
      intro full h hv
      simp only [okT, Bool.and_eq_true] at h
      exact ih1 false h.1.2 hv.1
  exact key t true h hv
theorem draw_tr (hC : CxOk C) {P : List Nat} (hds : ∀ o ∈ ops.toList, ∀ d, o.dst = some d → d < n) (hedge : ∀ i o, ops[i]? = some o → ∀ e ∈ o.after.toList, Region.binds .any e = true → e.on < i) {Kp : S → Prop} {Q : Exit → Act → World → Prop} (hQ : ∀ s a w, Kp s → St C n F ok0 w0 s a w → Q .normal a w) :
    ∀ (fuel : Nat) (listed : Array Bool) (rm : List Nat) (t : Tr) (s : S) (a : Act) (w : World), listed.size = ops.size → (∀ i o, ops[i]? = some o → listed.getD i true = true → ∀ e ∈ o.after.toList, Region.binds .any e = true → listed.getD e.on true = true) →
      rm.Nodup → (∀ i, i ∈ rm ↔ i < ops.size ∧ listed.getD i true = false) → rm.length ≤ fuel → Inv P s → St C n F ok0 w0 s a w → okT own P ops (masks ops.toList []) true rm t = true → vcTr C own P ops t Kp s → wpAny C.P .any ops Q fuel listed a w := by
  have hready0 : ∀ (listed : Array Bool), listed.size = ops.size → (∃ i, i < ops.size ∧ listed.getD i true = false) → Region.ready .any ops listed ≠ [] := by
    intro listed hsz hne
    have key : ∀ m i, i ≤ m → ∀ o, ops[i]? = some o → listed.getD i true = false → Region.ready .any ops listed ≠ [] := by
      intro m
      induction m with
      | zero =>
        intro i him o ho hu
        have : i ∈ Region.ready .any ops listed := by
          rw [mem_ready]
          refine ⟨hu, o, ho, fun e he hb => ?_⟩
          have := hedge i o ho e (by simpa using he) hb
          omega
        intro h0
        rw [h0] at this
        cases this
      | succ m ih =>
        intro i him o ho hu
        by_cases hex : ∃ e ∈ o.after.toList, Region.binds .any e = true ∧ listed.getD e.on true = false
        · obtain ⟨e, he, hb, hu'⟩ := hex
          have hlt := hedge i o ho e he hb
          have hsz' : e.on < ops.size := by have := (Array.getElem?_eq_some_iff.1 ho).1; omega
          exact ih e.on (by omega) ops[e.on] (by simp [hsz']) hu'
        · have : i ∈ Region.ready .any ops listed := by
            rw [mem_ready]
            refine ⟨hu, o, ho, fun e he hb => ?_⟩
            have h1 : listed.getD e.on true = true := by
              cases h : listed.getD e.on true with
              | true => rfl
              | false => exact absurd ⟨e, by simpa using he, hb, h⟩ hex
            have hlt := hedge i o ho e (by simpa using he) hb
            have hsz' : e.on < listed.size := by have := (Array.getElem?_eq_some_iff.1 ho).1; omega
            simpa [hsz'] using h1
          intro h0
          rw [h0] at this
          cases this
    obtain ⟨i, h1, h2⟩ := hne
    exact key i i (Nat.le_refl _) ops[i] (by simp [h1]) h2
  intro fuel
  induction fuel with
  | zero =>
    intro listed rm t s a w hsz hdc hnd hrm hlen hI hst hok hvc
    have h0 : rm = [] := List.length_eq_zero_iff.1 (Nat.le_zero.1 hlen)
    subst h0
    refine ⟨?_, hQ s a w (okT_nil hok hvc) hst⟩
    refine List.eq_nil_iff_forall_not_mem.2 fun i hi => ?_
    obtain ⟨h1, o, h2, _⟩ := mem_ready.1 hi
    have := (hrm i).2 ⟨(Array.getElem?_eq_some_iff.1 h2).1, h1⟩
    cases this
  | succ fuel ih =>
    intro listed rm t s a w hsz hdc hnd hrm hlen hI hst hok hvc
    refine ⟨fun h0 => ?_, fun j hj => ?_⟩
    · have h1 : rm = [] := by
        refine List.eq_nil_iff_forall_not_mem.2 fun i hi => ?_
        exact hready0 listed hsz ⟨i, (hrm i).1 hi⟩ h0
      subst h1
      exact hQ s a w (okT_nil hok hvc) hst
    · obtain ⟨hu, x, hx, hall⟩ := mem_ready.1 hj
      have hjlt := (Array.getElem?_eq_some_iff.1 hx).1
      have hjm : j ∈ rm := (hrm j).2 ⟨hjlt, hu⟩
      have hD : ∀ e ∈ x.after.toList, Region.binds .any e = true → listed.getD e.on true = true := by
        intro e he hb
        have h1 := hall e (by simpa using he) hb
        rcases Nat.lt_or_ge e.on listed.size with h | h
        · simpa [h] using h1
        · simp [Array.getElem?_eq_none h] at h1
      have hnb : ∀ i ∈ rm, ((masks ops.toList []).getD j 0).testBit i = false := by
        intro i hi
        cases h3 : ((masks ops.toList []).getD j 0).testBit i with
        | false => rfl
        | true =>
          exfalso
          have := masks_spec (D := fun i => listed.getD i true = true) (L := ops.toList) (fun i o ho hDi e he hb => hdc i o (by simpa using ho) hDi e he hb) ops.toList [] (fun j => by simp) (fun k i _ h => by simp at h) j i (fun o ho e he hb => by
            have : o = x := by simpa [hx] using ho.symm
            subst this
            exact hD e he hb) h3
          rw [((hrm i).1 hi).2] at this
          cases this
      obtain ⟨t', hok', hfr⟩ := okT_front (K := Kp) hC hds t true rm j x hnd hjm hx hnb (by intro h; cases h) hok
      have hfront := hfr s a w hI hst hvc
      have hxm : x ∈ ops.toList := List.mem_of_getElem? (i := j) (by simpa using hx)
      have hjs : j < listed.size := by rw [hsz]; exact hjlt
      have hsound := ops_sound (Q := fun e a w => match e with | .normal => wpAny C.P .any ops Q fuel (listed.setIfInBounds j true) a w | e => Q e a w) hC (ops := ops) [x] _ s (by intro o' ho' d hd'; simp at ho'; subst ho'; exact hds _ hxm d hd') hfront a w hI hst fun s1 a1 w1 hk hI1 hs => by
        refine ih _ (rm.erase j) t' s1 a1 w1 (by simpa using hsz) ?_ (hnd.erase j) ?_ ?_ hI1 hs hok' hk
        · intro i o ho hl e he hb
          by_cases hij : j = i
          · subst hij
            have : o = x := by rw [hx] at ho; cases ho; rfl
            subst this
            by_cases hje : j = e.on
            · have := hedge _ _ ho e he hb; omega
            · rw [getD_set_ne true hje]; exact hD e he hb
          · rw [getD_set_ne true hij] at hl
            by_cases hje : j = e.on
            · rw [← hje]
              simp [hjs]
            · rw [getD_set_ne true hje]; exact hdc i o ho hl e he hb
        · intro i
          rw [hnd.mem_erase_iff, hrm i]
          by_cases hij : j = i
          · subst hij
            simp [hjs]
          · rw [getD_set_ne true hij]
            exact ⟨fun h => h.2, fun h => ⟨fun e => hij e.symm, h⟩⟩
        · rw [List.length_erase_of_mem hjm]
          omega
      unfold wpOp
      rw [hx]
      simp only
      unfold wpList at hsound
      split
      · rename_i hw
        rw [if_pos hw] at hsound
        rcases hsound with h1 | ⟨h1, h2⟩
        · exact .inl (wp_Q (fun _ _ _ h => h) (fun h => h) h1)
        · exact .inr ⟨h1, h2⟩
      · rename_i hw
        rw [if_neg hw] at hsound
        exact hsound
end
end Go.Vc
