/- A calculus of verification conditions, part 15: of two free operations that are apart either may come first. -/
import Derived.Test.YtcdbgkcijelopaaDoorVce
set_option linter.unusedVariables false
namespace Go.Vc
open Go Go.RowKit

theorem mem_keysL : ∀ {l : List SV} {κ : Nat}, κ ∈ SV.keysL l → ∃ x ∈ l, κ ∈ x.keys
  | [], κ, h => by simp [SV.keysL] at h
  | x :: l, κ, h => by
    rw [SV.keysL, List.mem_append] at h
    rcases h with h | h
    · exact ⟨x, List.mem_cons_self .., h⟩
    · obtain ⟨y, hy, hk⟩ := mem_keysL h
      exact ⟨y, List.mem_cons_of_mem _ hy, hk⟩
theorem Reach.mono {η : Nat → AO} {l l' : List Nat} (h : ∀ κ ∈ l, κ ∈ l') {κ : Nat} (hr : Reach η l κ) : Reach η l' κ := by
  induction hr with
  | base hk => exact .base (h _ hk)
  | step _ hk ih => exact .step ih hk
theorem Reach.congr {η η' : Nat → AO} {l : List Nat} (h : ∀ κ, Reach η l κ → η' κ = η κ) {κ : Nat} (hr : Reach η l κ) : Reach η' l κ := by
  induction hr with
  | base hk => exact .base hk
  | step h1 hk ih => exact .step ih (by rw [h _ h1]; exact hk)
theorem bnd_free {ev : Operand → SV} {d : Nat} {x : Option Operand} {k : Nat → Prop} (h : bnd ev d x k) : ∃ n, k n ∧ ∀ (ev' : Operand → SV) (k' : Nat → Prop), (∀ y, x = some y → ev' y = ev y) → k' n → bnd ev' d x k' := by
  cases x with
  | none => exact ⟨d, h, fun _ _ _ h => h⟩
  | some y =>
    simp only [bnd] at h
    split at h
    · rename_i j n e
      refine ⟨n.toNat, h.2, fun ev' k' he hk => ?_⟩
      simp only [bnd, he y rfl, e]
      exact ⟨h.1, hk⟩
    · exact h.elim
theorem intBin_free {op : BinOp} {j : IntKind} {a b : Int} {k : PV → Prop} (h : intBin op j a b k) : ∃ r, k r ∧ ∀ k' : PV → Prop, k' r → intBin op j a b k' := by
  unfold intBin at h
  split at h
  · obtain ⟨r, h1, h2⟩ := h; exact ⟨_, h2, fun k' hk => ⟨r, h1, hk⟩⟩
  · obtain ⟨r, h1, h2⟩ := h; exact ⟨_, h2, fun k' hk => ⟨r, h1, hk⟩⟩
  · obtain ⟨r, h1, h2⟩ := h; exact ⟨_, h2, fun k' hk => ⟨r, h1, hk⟩⟩
  · exact ⟨_, h, fun k' hk => hk⟩
  · exact ⟨_, h, fun k' hk => hk⟩
  · exact ⟨_, h, fun k' hk => hk⟩
  · exact ⟨_, h, fun k' hk => hk⟩
  · exact ⟨_, h, fun k' hk => hk⟩
  · exact ⟨_, h, fun k' hk => hk⟩
  · obtain ⟨h0, r, h1, h2⟩ := h; exact ⟨_, h2, fun k' hk => ⟨h0, r, h1, hk⟩⟩
  · obtain ⟨h0, r, h1, h2⟩ := h; exact ⟨_, h2, fun k' hk => ⟨h0, r, h1, hk⟩⟩
  · obtain ⟨h0, r, h1, h2⟩ := h; exact ⟨_, h2, fun k' hk => ⟨h0, r, h1, hk⟩⟩
  · obtain ⟨h0, r, h1, h2⟩ := h; exact ⟨_, h2, fun k' hk => ⟨h0, r, h1, hk⟩⟩
  · obtain ⟨r, h1, h2⟩ := h; exact ⟨_, h2, fun k' hk => ⟨r, h1, hk⟩⟩
  · obtain ⟨r, h1, h2⟩ := h; exact ⟨_, h2, fun k' hk => ⟨r, h1, hk⟩⟩
  · obtain ⟨r, h1, h2⟩ := h; exact ⟨_, h2, fun k' hk => ⟨r, h1, hk⟩⟩
  · exact h.elim
theorem strBin_free {op : BinOp} {a b : List UInt8} {k : PV → Prop} (h : strBin op a b k) : ∃ r, k r ∧ ∀ k' : PV → Prop, k' r → strBin op a b k' := by
  unfold strBin at h
  split at h
  · exact ⟨_, h.2, fun k' hk => ⟨h.1, hk⟩⟩
  · exact ⟨_, h, fun k' hk => hk⟩
  · exact ⟨_, h, fun k' hk => hk⟩
  · exact ⟨_, h, fun k' hk => hk⟩
  · exact h.elim
theorem ldVC_free {ti : TI} {t t' : Nat} {y : SV} {off : Nat} {k : SV → Prop} (h : ldVC ti t t' y off k) : ∃ z, k z ∧ ∀ k' : SV → Prop, k' z → ldVC ti t t' y off k' := by
  unfold ldVC at h ⊢
  cases e : (Nat.beq t t' && Nat.beq off 0) with
  | true => rw [e] at h; exact ⟨_, h, fun k' hk => hk⟩
  | false =>
    rw [e] at h
    simp only [cond_false] at h ⊢
    split at h
    · exact h.elim
    · rename_i cs ec
      cases ea : ti.agg with
      | true => rw [ea] at h; exact ⟨_, h.2, fun k' hk => ⟨h.1, hk⟩⟩
      | false =>
        rw [ea] at h
        simp only [cond_false] at h ⊢
        split at h
        · exact ⟨_, h, fun k' hk => hk⟩
        · exact h.elim
def Fr (own : Nat → Bool) (C : Cx) (o : Oper) (ev : Operand → SV) (η : Nat → AO) (l : List Nat) (k : U → Prop) : Prop :=
  ∃ u, k u ∧ u.st = none ∧ u.kill = none ∧ (∀ o', u.obj = some o' → ∃ d, o.dst = some d ∧ η d = .no) ∧
    ∀ (ev' : Operand → SV) (η' : Nat → AO) (k' : U → Prop), (∀ x ∈ o.op.operands, ev' x = ev x) → (∀ κ, Reach η l κ → η' κ = η κ) → (∀ d, o.dst = some d → η' d = η d) → k' u → VC C own o ev' η' k'
section
variable {C : Cx} {own : Nat → Bool} {o : Oper} {ev : Operand → SV} {η : Nat → AO} {l : List Nat} {k : U → Prop}
theorem free_load {t : Nat} {x : Operand} (e : o.op = .load t x) (hl : ∀ x ∈ o.op.operands, ∀ κ ∈ (ev x).keys, κ ∈ l) (h : VC C own o ev η k) : Fr own C o ev η l k := by
  simp only [VC, e] at h
  split at h
  · exact h.elim
  · rename_i ti et
    split at h
    · rename_i κ off ex
      split at h
      · rename_i ow t' y eη
        obtain ⟨z, hz, hz'⟩ := ldVC_free h
        refine ⟨_, hz, rfl, rfl, by simp, fun ev' η' k' he hη hd hk => ?_⟩
        have h1 := he x (by simp [e, Op.operands])
        have h2 := hη κ (.base (hl x (by simp [e, Op.operands]) κ (by simp [ex, SV.keys])))
        simp only [VC, e, et, h1, ex, h2, eη]
        exact hz' _ hk
      · exact h.elim
    · rename_i y ex
      refine ⟨_, h.2, rfl, rfl, by simp, fun ev' η' k' he hη hd hk => ?_⟩
      have h1 := he x (by simp [e, Op.operands])
      simp only [VC, e, et, h1, ex]
      exact ⟨h.1, hk⟩
    · rename_i y f ex
      split at h
      · rename_i cs
        cases ea : ti.agg with
        | true =>
          rw [ea] at h
          refine ⟨_, h.2, rfl, rfl, by simp, fun ev' η' k' he hη hd hk => ?_⟩
          have h1 := he x (by simp [e, Op.operands])
          simp only [VC, e, et, h1, ex, ea]
          exact ⟨h.1, hk⟩
        | false =>
          rw [ea] at h
          simp only [cond_false] at h
          split at h
          · rename_i z ez
            refine ⟨_, h, rfl, rfl, by simp, fun ev' η' k' he hη hd hk => ?_⟩
            have h1 := he x (by simp [e, Op.operands])
            simp only [VC, e, et, h1, ex, ea, cond_false, ez]
            exact hk
          · exact h.elim
      · exact h.elim
    · rename_i κ sz i ex
      split at h
      · rename_i t' sz' L eη
        obtain ⟨y, h1, h2, h3, h4, h5⟩ := h
        refine ⟨_, h5, rfl, rfl, by simp, fun ev' η' k' he hη hd hk => ?_⟩
        have g1 := he x (by simp [e, Op.operands])
        have g2 := hη κ (.base (hl x (by simp [e, Op.operands]) κ (by simp [ex, SV.keys])))
        simp only [VC, e, et, g1, ex, g2, eη]
        exact ⟨y, h1, h2, h3, h4, hk⟩
      · exact h.elim
    · exact h.elim
theorem free_binOp {op : BinOp} {t t2 : Nat} {x y : Operand} (e : o.op = .binOp op t x y t2) (h : VC C own o ev η k) : Fr own C o ev η l k := by
  simp only [VC, e] at h
  have hx : x ∈ o.op.operands := by simp [e, Op.operands]
  have hy : y ∈ o.op.operands := by simp [e, Op.operands]
  split at h
  · rename_i j a j' b ex ey
    obtain ⟨r, hr, hr'⟩ := intBin_free h.2
    refine ⟨_, hr, rfl, rfl, by simp, fun ev' η' k' he hη hd hk => ?_⟩
    simp only [VC, e, he x hx, he y hy, ex, ey]
    exact ⟨h.1, hr' _ hk⟩
  · rename_i a b ex ey
    obtain ⟨r, hr, hr'⟩ := strBin_free h
    refine ⟨_, hr, rfl, rfl, by simp, fun ev' η' k' he hη hd hk => ?_⟩
    simp only [VC, e, he x hx, he y hy, ex, ey]
    exact hr' _ hk
  · rename_i a b ex ey
    split at h
    · rename_i ti et
      refine ⟨_, h.2, rfl, rfl, by simp, fun ev' η' k' he hη hd hk => ?_⟩
      simp only [VC, e, he x hx, he y hy, ex, ey, et]
      exact ⟨h.1, hk⟩
    · rename_i ti et
      refine ⟨_, h.2, rfl, rfl, by simp, fun ev' η' k' he hη hd hk => ?_⟩
      simp only [VC, e, he x hx, he y hy, ex, ey, et]
      exact ⟨h.1, hk⟩
    · exact h.elim
  · rename_i L ex ey
    split at h
    · rename_i ti et
      refine ⟨_, h.2, rfl, rfl, by simp, fun ev' η' k' he hη hd hk => ?_⟩
      simp only [VC, e, he x hx, he y hy, ex, ey, et]
      exact ⟨h.1, hk⟩
    · exact h.elim
  · exact h.elim
theorem free_fieldAddr {t f : Nat} {x : Operand} (e : o.op = .fieldAddr t x f) (h : VC C own o ev η k) : Fr own C o ev η l k := by
  simp only [VC, e] at h
  have hx : x ∈ o.op.operands := by simp [e, Op.operands]
  split at h
  · exact h.elim
  · rename_i ti et
    split at h
    · rename_i off n ef
      obtain ⟨hk1, h⟩ := h
      split at h
      · rename_i κ o' ex
        refine ⟨_, h, rfl, rfl, by simp, fun ev' η' k' he hη hd hk => ?_⟩
        simp only [VC, e, he x hx, ex, et, ef]
        exact ⟨hk1, hk⟩
      · rename_i y ex
        refine ⟨_, h, rfl, rfl, by simp, fun ev' η' k' he hη hd hk => ?_⟩
        simp only [VC, e, he x hx, ex, et, ef]
        exact ⟨hk1, hk⟩
      · rename_i y o' ex
        refine ⟨_, h, rfl, rfl, by simp, fun ev' η' k' he hη hd hk => ?_⟩
        simp only [VC, e, he x hx, ex, et, ef]
        exact ⟨hk1, hk⟩
      · exact h.elim
    · exact h.elim
theorem free_indexAddr {t : Nat} {x ix : Operand} (e : o.op = .indexAddr t x ix) (hl : ∀ x ∈ o.op.operands, ∀ κ ∈ (ev x).keys, κ ∈ l) (h : VC C own o ev η k) : Fr own C o ev η l k := by
  simp only [VC, e] at h
  have hx : x ∈ o.op.operands := by simp [e, Op.operands]
  have hi : ix ∈ o.op.operands := by simp [e, Op.operands]
  split at h
  · rename_i ti j n et ei
    split at h
    · exact h.elim
    · rename_i te ete
      split at h
      · rename_i L ex
        obtain ⟨h0, y, hy, h1, h2, h3⟩ := h
        refine ⟨_, h3, rfl, rfl, by simp, fun ev' η' k' he hη hd hk => ?_⟩
        simp only [VC, e, he x hx, he ix hi, ex, ei, et, ete]
        exact ⟨h0, y, hy, h1, h2, hk⟩
      · rename_i g ex
        split at h
        · rename_i L eL
          obtain ⟨h0, y, hy, h1, h2, h3, h4⟩ := h
          refine ⟨_, h4, rfl, rfl, by simp, fun ev' η' k' he hη hd hk => ?_⟩
          simp only [VC, e, he x hx, he ix hi, ex, ei, et, ete, eL]
          exact ⟨h0, y, hy, h1, h2, h3, hk⟩
        · exact h.elim
      · rename_i κ ex
        split at h
        · rename_i t' sz L eη
          obtain ⟨h0, h1, h2, h3, h4⟩ := h
          refine ⟨_, h4, rfl, rfl, by simp, fun ev' η' k' he hη hd hk => ?_⟩
          have h5 := hη κ (.base (hl x hx κ (by simp [ex, SV.keys])))
          simp only [VC, e, he x hx, he ix hi, ex, ei, et, ete, h5, eη]
          exact ⟨h0, h1, h2, h3, hk⟩
        · exact h.elim
      · exact h.elim
  · exact h.elim
theorem free_slice {t : Nat} {x : Operand} {lo hi mx : Option Operand} (e : o.op = .slice t x lo hi mx) (h : VC C own o ev η k) : Fr own C o ev η l k := by
  simp only [VC, e] at h
  have hx : x ∈ o.op.operands := by simp [e, Op.operands]
  have hlo : ∀ y, lo = some y → y ∈ o.op.operands := fun y hy => by simp [e, Op.operands, hy]
  have hhi : ∀ y, hi = some y → y ∈ o.op.operands := fun y hy => by simp [e, Op.operands, hy]
  have hmx : ∀ y, mx = some y → y ∈ o.op.operands := fun y hy => by simp [e, Op.operands, hy]
  split at h
  · rename_i ti L et ex
    obtain ⟨h1, h2, h3, h4⟩ := h
    obtain ⟨n1, h4, g1⟩ := bnd_free h4
    obtain ⟨n2, h4, g2⟩ := bnd_free h4
    obtain ⟨n3, h4, g3⟩ := bnd_free h4
    obtain ⟨q1, q2, q3, q4⟩ := h4
    refine ⟨_, q4, rfl, rfl, by simp, fun ev' η' k' he hη hd hk => ?_⟩
    simp only [VC, e, he x hx, ex, et]
    exact ⟨h1, h2, h3, g1 _ _ (fun y hy => he y (hlo y hy)) (g2 _ _ (fun y hy => he y (hhi y hy)) (g3 _ _ (fun y hy => he y (hmx y hy)) ⟨q1, q2, q3, hk⟩))⟩
  · rename_i ti L et ex
    obtain ⟨h1, h2, h4⟩ := h
    obtain ⟨n1, h4, g1⟩ := bnd_free h4
    obtain ⟨n2, h4, g2⟩ := bnd_free h4
    obtain ⟨q1, q2, q4⟩ := h4
    refine ⟨_, q4, rfl, rfl, by simp, fun ev' η' k' he hη hd hk => ?_⟩
    simp only [VC, e, he x hx, ex, et]
    exact ⟨h1, h2, g1 _ _ (fun y hy => he y (hlo y hy)) (g2 _ _ (fun y hy => he y (hhi y hy)) ⟨q1, q2, hk⟩)⟩
  · exact h.elim
theorem partsIn_congr {ev ev' : Operand → SV} : ∀ (ps : List (Nat × Operand)) (n : Nat), (∀ p ∈ ps, ev' p.2 = ev p.2) → partsIn ev' n ps = partsIn ev n ps
  | [], n, h => rfl
  | (i, x) :: r, n, h => by
    simp only [partsIn, partsIn_congr r (n + 1) fun p hp => h p (List.mem_cons_of_mem _ hp)]
    rw [show ev' x = ev x from h (i, x) (List.mem_cons_self ..)]
theorem CallVC_congr {η η' : Nat → AO} {f : FuncId} {args : List SV} {r : Res} (hk : ∀ κ ∈ SV.keysL args, κ ∈ l) (hη : ∀ κ, Reach η l κ → η' κ = η κ) (h : CallVC C η f args (args.map (view η)) r) : CallVC C η' f args (args.map (view η')) r := by
  obtain ⟨ηc, args', hle, hpc, hηc, hlive, hkeys, hscal⟩ := h
  have hv : args.map (view η') = args.map (view η) := by
    refine List.map_congr_left fun x hx => ?_
    cases x with
    | slc κ =>
      have : η' κ = η κ := hη κ (.base (hk κ (keysL_mem hx (by simp [SV.keys]))))
      simp only [view, this]
    | _ => rfl
  refine ⟨ηc, args', by rw [hv]; exact hle, hpc, fun κ => ?_, hlive, hkeys, hscal⟩
  rcases hηc κ with e | ⟨h1, h2⟩
  · exact .inl e
  · have h3 : ∀ κ, Reach η (SV.keysL args) κ → η' κ = η κ := fun κ hr => hη κ (hr.mono hk)
    exact .inr ⟨h1.congr h3, by rw [h3 κ h1]; exact h2⟩
theorem free_call {c : Call} (e : o.op = .call c) (hf : freeO0 o = true) (hl : ∀ x ∈ o.op.operands, ∀ κ ∈ (ev x).keys, κ ∈ l) (h : VC C own o ev η k) : Fr own C o ev η l k := by
  obtain ⟨callee, args, argTypes⟩ := c
  have hargs : ∀ x ∈ args, x ∈ o.op.operands := fun x hx => by simp [e, Op.operands, Call.operands, hx]
  cases callee with
  | value f =>
    have hfo : f ∈ o.op.operands := by simp [e, Op.operands, Call.operands]
    simp only [VC, e, SV.forceL_eq] at h
    split at h
    · exact h.elim
    · rename_i d ed
      split at h
      · rename_i f' caps ef
        obtain ⟨r, hc, h⟩ := h
        split at h
        · rename_i eη
          have hsame : ∀ (ev' : Operand → SV), (∀ x ∈ o.op.operands, ev' x = ev x) → args.toList.map ev' = args.toList.map ev := fun ev' he => List.map_congr_left fun x hx => he x (hargs x (by simpa using hx))
          have hkk : ∀ κ ∈ SV.keysL (args.toList.map ev ++ caps), κ ∈ l := by
            intro κ hκ
            rw [keysL_append, List.mem_append] at hκ
            rcases hκ with hκ | hκ
            · obtain ⟨y, hy, hk⟩ := mem_keysL hκ
              obtain ⟨x, hx, rfl⟩ := List.mem_map.1 hy
              exact hl x (hargs x (by simpa using hx)) κ hk
            · exact hl f hfo κ (by rw [ef, SV.keys]; exact hκ)
          refine ⟨_, h, ?_, ?_, ?_, fun ev' η' k' he hη hd hk => ?_⟩
          · cases r <;> simp [Res.u]
            cases own d <;> simp
          · cases r <;> simp [Res.u]
            cases own d <;> simp
          · intro o' _
            exact ⟨d, ed, eη⟩
          · simp only [VC, e, ed, he f hfo, ef, hsame ev' he, SV.forceL_eq]
            refine ⟨r, CallVC_congr hkk hη hc, ?_⟩
            rw [hd d ed, eη]
            exact hk
        · exact h.elim
      · exact h.elim
  | invoke r m => simp only [VC, e] at h
  | builtin b =>
    cases b with
    | len =>
      simp only [VC, e] at h
      split at h
      · rename_i x ti ea et
        have hx : x ∈ o.op.operands := hargs x (by have : x ∈ args.toList := by rw [ea]; simp
                                                   simpa using this)
        split at h
        · rename_i L ex
          refine ⟨_, h.2, rfl, rfl, by simp, fun ev' η' k' he hη hd hk => ?_⟩
          simp only [VC, e, ea, et, he x hx, ex]
          exact ⟨h.1, hk⟩
        · rename_i ex
          refine ⟨_, h.2, rfl, rfl, by simp, fun ev' η' k' he hη hd hk => ?_⟩
          simp only [VC, e, ea, et, he x hx, ex]
          exact ⟨h.1, hk⟩
        · rename_i L ex
          refine ⟨_, h.2, rfl, rfl, by simp, fun ev' η' k' he hη hd hk => ?_⟩
          simp only [VC, e, ea, et, he x hx, ex]
          exact ⟨h.1, hk⟩
        · rename_i κ ex
          split at h
          · rename_i t' sz L eη
            refine ⟨_, h.2, rfl, rfl, by simp, fun ev' η' k' he hη hd hk => ?_⟩
            have h5 := hη κ (.base (hl x hx κ (by simp [ex, SV.keys])))
            simp only [VC, e, ea, et, he x hx, ex, h5, eη]
            exact ⟨h.1, hk⟩
          · exact h.elim
        · exact h.elim
      · exact h.elim
    | max =>
      simp only [VC, e] at h
      split at h
      · rename_i x y ea
        have hx : x ∈ o.op.operands := hargs x (by have : x ∈ args.toList := by rw [ea]; simp
                                                   simpa using this)
        have hy : y ∈ o.op.operands := hargs y (by have : y ∈ args.toList := by rw [ea]; simp
                                                   simpa using this)
        split at h
        · rename_i a b ex ey
          refine ⟨_, h, rfl, rfl, by simp, fun ev' η' k' he hη hd hk => ?_⟩
          simp only [VC, e, ea, he x hx, he y hy, ex, ey]
          exact hk
        · exact h.elim
      · rename_i x y z ea
        have hx : x ∈ o.op.operands := hargs x (by have : x ∈ args.toList := by rw [ea]; simp
                                                   simpa using this)
        have hy : y ∈ o.op.operands := hargs y (by have : y ∈ args.toList := by rw [ea]; simp
                                                   simpa using this)
        have hz : z ∈ o.op.operands := hargs z (by have : z ∈ args.toList := by rw [ea]; simp
                                                   simpa using this)
        split at h
        · rename_i a b c ex ey ez
          refine ⟨_, h, rfl, rfl, by simp, fun ev' η' k' he hη hd hk => ?_⟩
          simp only [VC, e, ea, he x hx, he y hy, he z hz, ex, ey, ez]
          exact hk
        · exact h.elim
      · exact h.elim
    | min =>
      simp only [VC, e] at h
      split at h
      · rename_i x y ea
        have hx : x ∈ o.op.operands := hargs x (by have : x ∈ args.toList := by rw [ea]; simp
                                                   simpa using this)
        have hy : y ∈ o.op.operands := hargs y (by have : y ∈ args.toList := by rw [ea]; simp
                                                   simpa using this)
        split at h
        · rename_i a b ex ey
          refine ⟨_, h, rfl, rfl, by simp, fun ev' η' k' he hη hd hk => ?_⟩
          simp only [VC, e, ea, he x hx, he y hy, ex, ey]
          exact hk
        · exact h.elim
      · exact h.elim
    | _ => simp [freeO0, e] at hf
theorem pairs_congr {ev ev' : Operand → SV} {ps : List (Nat × Operand)} (h : ∀ p ∈ ps, ev' p.2 = ev p.2) : (ps.map fun x => (x.1, ev' x.2)) = ps.map fun x => (x.1, ev x.2) :=
  List.map_congr_left fun p hp => by rw [h p hp]
theorem mv_free {t : Nat} {x : SV} (h : mvVC C own o.dst t η x k)
    (h' : ∀ (ev' : Operand → SV) (η' : Nat → AO) (k' : U → Prop), (∀ x ∈ o.op.operands, ev' x = ev x) → (∀ κ, Reach η l κ → η' κ = η κ) → (∀ d, o.dst = some d → η' d = η d) → mvVC C own o.dst t η' x k' → VC C own o ev' η' k') : Fr own C o ev η l k := by
  unfold mvVC at h
  cases e : ownNil own o.dst x with
  | false =>
    rw [e] at h
    refine ⟨_, h, rfl, rfl, by simp, fun ev' η' k' he hη hd hk => h' ev' η' k' he hη hd ?_⟩
    unfold mvVC
    rw [e]
    exact hk
  | true =>
    rw [e] at h
    simp only [cond_true] at h
    split at h
    · rename_i d ti ed et
      split at h
      · rename_i te eη ete
        refine ⟨_, h.2, rfl, rfl, fun _ _ => ⟨d, ed, eη⟩, fun ev' η' k' he hη hd hk => h' ev' η' k' he hη hd ?_⟩
        unfold mvVC
        rw [e]
        simp only [cond_true, ed, et, hd d ed, eη, ete]
        exact ⟨h.1, hk⟩
      · exact h.elim
    · exact h.elim
/-- What a free operation leaves depends on what it looks at, on nothing else. -/
theorem VC_free (hf : freeO0 o = true) (hl : ∀ x ∈ o.op.operands, ∀ κ ∈ (ev x).keys, κ ∈ l) (h : VC C own o ev η k) : Fr own C o ev η l k := by
  cases e : o.op with
  | move x =>
    simp only [VC, e] at h
    refine mv_free h fun ev' η' k' he hη hd hk => ?_
    simp only [VC, e, he x (by simp [e, Op.operands])]
    exact hk
  | assign x =>
    simp only [VC, e] at h
    refine mv_free h fun ev' η' k' he hη hd hk => ?_
    simp only [VC, e, he x (by simp [e, Op.operands])]
    exact hk
  | convert t t' x =>
    simp only [VC, e] at h
    split at h
    · rename_i ti ti' et et'
      split at h
      · rename_i j m ex
        split at h
        · rename_i j' z0 ez
          obtain ⟨h1, r, h2, h3⟩ := h
          refine ⟨_, h3, rfl, rfl, by simp, fun ev' η' k' he hη hd hk => ?_⟩
          simp only [VC, e, et, et', he x (by simp [e, Op.operands]), ex, ez]
          exact ⟨h1, r, h2, hk⟩
        · exact h.elim
      · rename_i L ex
        obtain ⟨h1, h2, h3, q, h4, h5⟩ := h
        refine ⟨_, h5, rfl, rfl, by simp, fun ev' η' k' he hη hd hk => ?_⟩
        simp only [VC, e, et, et', he x (by simp [e, Op.operands]), ex]
        exact ⟨h1, h2, h3, q, h4, hk⟩
      · exact h.elim
    · exact h.elim
  | pick c x y =>
    simp only [VC, e] at h
    have hc : c ∈ o.op.operands := by simp [e, Op.operands]
    have hx : x ∈ o.op.operands := by simp [e, Op.operands]
    have hy : y ∈ o.op.operands := by simp [e, Op.operands]
    split at h
    · rename_i t ec
      cases t with
      | true =>
        refine ⟨_, h, rfl, rfl, by simp, fun ev' η' k' he hη hd hk => ?_⟩
        simp only [VC, e, he c hc, he x hx, ec]
        exact hk
      | false =>
        refine ⟨_, h, rfl, rfl, by simp, fun ev' η' k' he hη hd hk => ?_⟩
        simp only [VC, e, he c hc, he y hy, ec]
        exact hk
    · exact h.elim
  | alloc t =>
    simp only [VC, e] at h
    split at h
    · rename_i d ti ed et
      split at h
      · rename_i eη
        refine ⟨_, h, rfl, rfl, fun _ _ => ⟨d, ed, eη⟩, fun ev' η' k' he hη hd hk => ?_⟩
        simp only [VC, e, ed, et, hd d ed, eη]
        exact hk
      · exact h.elim
    · exact h.elim
  | load t x => exact free_load e hl h
  | nilCheck x =>
    simp only [VC, e] at h
    split at h
    · rename_i κ off ex
      refine ⟨_, h, rfl, rfl, by simp, fun ev' η' k' he hη hd hk => ?_⟩
      simp only [VC, e, he x (by simp [e, Op.operands]), ex]
      exact hk
    · exact h.elim
  | binOp op t x y t' => exact free_binOp e h
  | unOp op t x =>
    simp only [VC, e] at h
    split at h
    · rename_i b ex
      refine ⟨_, h, rfl, rfl, by simp, fun ev' η' k' he hη hd hk => ?_⟩
      simp only [VC, e, he x (by simp [e, Op.operands]), ex]
      exact hk
    · rename_i j b ex
      obtain ⟨r, h1, h2⟩ := h
      refine ⟨_, h2, rfl, rfl, by simp, fun ev' η' k' he hη hd hk => ?_⟩
      simp only [VC, e, he x (by simp [e, Op.operands]), ex]
      exact ⟨r, h1, hk⟩
    · exact h.elim
  | makeFunc f fi ca =>
    simp only [VC, e] at h
    split at h
    · rename_i f' ef
      refine ⟨_, h, rfl, rfl, by simp, fun ev' η' k' he hη hd hk => ?_⟩
      have : ca.toList.map ev' = ca.toList.map ev := List.map_congr_left fun x hx => he x (by simp [e, Op.operands]; exact .inr (by simpa using hx))
      simp only [VC, e, ef, this]
      exact hk
    · exact h.elim
  | fieldAddr t x f => exact free_fieldAddr e h
  | indexAddr t x ix => exact free_indexAddr e hl h
  | index t x ix =>
    simp only [VC, e] at h
    split at h
    · rename_i ti lx j n et ex ei
      obtain ⟨h1, h2, c, h3, h4⟩ := h
      refine ⟨_, h4, rfl, rfl, by simp, fun ev' η' k' he hη hd hk => ?_⟩
      simp only [VC, e, et, he x (by simp [e, Op.operands]), he ix (by simp [e, Op.operands]), ex, ei]
      exact ⟨h1, h2, c, h3, hk⟩
    · exact h.elim
  | slice t x lo hi mx => exact free_slice e h
  | extract x i =>
    simp only [VC, e] at h
    split at h
    · rename_i cs ex
      split at h
      · rename_i y ey
        refine ⟨_, h, rfl, rfl, by simp, fun ev' η' k' he hη hd hk => ?_⟩
        simp only [VC, e, he x (by simp [e, Op.operands]), ex, ey]
        exact hk
      · exact h.elim
    · exact h.elim
  | build t parts =>
    simp only [VC, e] at h
    have hp : ∀ p ∈ parts.toList, p.2 ∈ o.op.operands := fun p hp => by
      simp only [e, Op.operands, List.mem_toArray, List.mem_map]
      exact ⟨p, hp, rfl⟩
    split at h
    · exact h.elim
    · rename_i ti et
      obtain ⟨h1, h2, h⟩ := h
      split at h
      · rename_i cs ecs
        split at h
        · rename_i cs' ef
          refine ⟨_, h, rfl, rfl, by simp, fun ev' η' k' he hη hd hk => ?_⟩
          simp only [VC, e, et, pairs_congr (fun p hm => he p.2 (hp p hm)), ecs, ef]
          exact ⟨h1, h2, hk⟩
        · exact h.elim
      · exact h.elim
  | buildSlice t m parts =>
    simp only [VC, e, PV.forceL_eq] at h
    have hp : ∀ p ∈ parts.toList, p.2 ∈ o.op.operands := fun p hp => by
      simp only [e, Op.operands, List.mem_toArray, List.mem_map]
      exact ⟨p, hp, rfl⟩
    split at h
    · rename_i d ti ed et
      split at h
      · rename_i te L ete eL
        obtain ⟨h1, h2, h3, h4, h5, h⟩ := h
        cases eo : own d with
        | true =>
          rw [eo] at h
          simp only [cond_true] at h
          split at h
          · rename_i eη
            refine ⟨_, h, rfl, rfl, fun _ _ => ⟨d, ed, eη⟩, fun ev' η' k' he hη hd hk => ?_⟩
            simp only [VC, e, PV.forceL_eq, ed, et, ete, partsIn_congr _ _ (fun p hm => he p.2 (hp p hm)), eL, eo, hd d ed, eη, cond_true]
            exact ⟨h1, h2, h3, h4, h5, hk⟩
          · exact h.elim
        | false =>
          rw [eo] at h
          refine ⟨_, h, rfl, rfl, by simp, fun ev' η' k' he hη hd hk => ?_⟩
          simp only [VC, e, PV.forceL_eq, ed, et, ete, partsIn_congr _ _ (fun p hm => he p.2 (hp p hm)), eL, eo, cond_false]
          exact ⟨h1, h2, h3, h4, h5, hk⟩
      · exact h.elim
    · exact h.elim
  | call c => exact free_call e hf hl h
  | _ => simp [freeO0, e] at hf
end
end Go.Vc
