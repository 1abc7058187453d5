/- The statement TopTickets, without a condition: a ticket of one KDC is none of another one's. Part 3: Wc. -/
import Derived.Test.YteicafhbhdliaaaGreatDoorPab
set_option linter.unusedVariables false
namespace Go.Vc
open Go Go.RowKit
section
variable {C : Cx} {n : Nat} {F : Fm} {ok0 : Nat → Prop} {w0 : World} {ok : Nat → Prop} {β : Nat → Value} {s : S} {a : Act} {w : World} {own : Nat → Bool} {o : Oper} {k : U → Prop} {K : Act → World → Prop} {Q : Exit → Act → World → Prop}
theorem op_sound (hC : CxOk C) (h : StO C n F ok0 w0 ok β s a w) (hd : ∀ d, o.dst = some d → d < n) (hvc : VC C own o s.ev s.η k)
  (hK : ∀ u a' w', k u → St C n F ok0 w0 (s.app o.dst u) a' w' → K a' w') : o.wp C.P a w K Q := by
 cases e : o.op with
 | move x => exact op_mv hC (.inl e) h hd hvc hK
 | assign x => exact op_mv hC (.inr e) h hd hvc hK
 | convert t t' x => exact op_convert hC e h hd hvc hK
 | pick c x y => exact op_pick e h hd hvc hK
 | alloc t => exact op_alloc hC e h hd hvc hK
 | box t x => exact op_box hC e h hd hvc hK
 | load t x => exact op_load hC e h hd hvc hK
 | store t x y => exact op_store hC e h hvc hK
 | nilCheck x => exact op_nilCheck e h hd hvc hK
 | binOp op t x y t' => exact op_binOp hC e h hd hvc hK
 | unOp op t x => exact op_unOp e h hd hvc hK
 | makeFunc f fi ca => exact op_makeFunc e h hd hvc hK
 | fieldAddr t x f => exact op_fieldAddr hC e h hd hvc hK
 | field t x f => exact op_field hC e h hd hvc hK
 | indexAddr t x ix => exact op_indexAddr hC e h hd hvc hK
 | index t x ix => exact op_index hC e h hd hvc hK
 | slice t x lo hi mx => exact op_slice hC e h hd hvc hK
 | extract x i => exact op_extract e h hd hvc hK
 | build t parts => exact op_build hC e h hd hvc hK
 | buildSlice t m parts => exact op_buildSlice hC e h hd hvc hK
 | makeMap t r => exact op_makeMap hC e h hd hvc hK
 | makeSlice t x y => exact op_makeSlice hC e h hd hvc hK
 | range t x => exact op_range hC e h hd hvc hK
 | next x str => exact op_next hC e h hd hvc hK
 | entry x => exact op_entry hC e h hd hvc hK
 | lookup t x ix cm => exact op_lookup hC e h hd hvc hK
 | mapUpdate t m ix x => exact op_mapUpdate hC e h hvc hK
 | insert t m ix x => exact op_insert hC e h hvc hK
 | call c =>
  obtain ⟨callee, args, argTypes⟩ := c
  cases callee with
  | value f => exact op_call hC e rfl h hd hvc hK
  | invoke r m => simp only [VC, e] at hvc
  | builtin b =>
   cases b with
   | len => exact op_len hC e rfl h hd hvc hK
   | append => exact op_append hC e rfl h hd hvc hK
   | max => exact op_max e rfl h hd hvc hK
   | min => exact op_min e rfl h hd hvc hK
   | clear => exact op_clear hC e rfl h hvc hK
   | copy => exact op_copy hC e rfl h hd hvc hK
   | delete => exact op_delete hC e rfl h hvc hK
   | _ => simp only [VC, e] at hvc
 | _ => simp only [VC, e] at hvc
theorem StO.refine (h : StO C n F ok0 w0 ok β s a w) {g : Nat} {x : PV} (e : s.ρ g = .p x) : StO C n F ok0 w0 ok β (s.put g (.p x)) a w := by
 have : s.put g (.p x) = s := by
  cases s with
  | mk ρ η =>
   simp only [S.put, S.mk.injEq, and_true]
   funext t
   rw [beq_ite]
   split
   ·rename_i ht; subst ht; exact e.symm
   ·rfl
 rw [this]
 exact h
theorem yielded_of (h : StO C n F ok0 w0 ok β s a w) {ops : Array Oper} {j g : Nat} {b : Bool} (hg : (ops[j]?).bind (·.dst) = some g) (e : s.ρ g = .p (.bool b)) : yielded ops a.tmps j = some b := by
 have h1 := h.ρ g
 rw [e, R, RP] at h1
 unfold yielded
 rw [hg]
 simp only [Option.bind_some]
 rw [Array.getD_eq_getD_getElem?] at h1
 cases e2 : a.tmps[g]? with
 | none => rw [e2] at h1; simp [undef] at h1
 | some v =>
  rw [e2] at h1
  simp only [Option.getD_some] at h1
  rw [h1]
mutual
theorem sub_R {ok' : Nat → Prop} {κ : Nat} {L : PV} (hok : ∀ b, ok b → ok' b) (hS : R ok' β w (slcTo L) (β κ)) (hP : ∀ b off, β κ = .pointer (some ⟨b, 0, none⟩) → R ok' β w (ptrTo off L) (.pointer (some ⟨b, off, none⟩))) : ∀ {x : SV} {v : Value}, R ok β w x v → R ok' β w (x.sub κ L) v
 | .no, v, h => trivial
 | .p x, v, h => RP_stay hok (Stay.refl _ _) h
 | .elt y, v, h => R_stay (x := .elt y) hok (Stay.refl _ _) h
 | .eltF y f, v, h => R_stay (x := .eltF y f) hok (Stay.refl _ _) h
 | .glob g, v, h => h
 | .nilQ M, v, h => h
 | .ptr κ' off, v, h => by
  simp only [SV.sub]
  rw [beq_ite]
  split
  ·rename_i e
   subst e
   rw [R] at h
   obtain ⟨b, h1, rfl⟩ := h
   exact hP b off h1
  ·exact h
 | .rowE κ' sz i, v, h => by
  simp only [SV.sub]
  rw [beq_ite]
  split
  ·trivial
  ·exact h
 | .tl κ' sz i, v, h => by
  simp only [SV.sub]
  rw [beq_ite]
  split
  ·trivial
  ·exact h
 | .slc κ', v, h => by
  simp only [SV.sub]
  rw [beq_ite]
  split
  ·rename_i e
   subst e
   rw [R] at h
   rw [h.1]
   exact hS
  ·exact h
 | .fn f caps, v, h => by
  rw [R] at h
  obtain ⟨vs, h1, h2⟩ := h
  simp only [SV.sub]
  rw [R]
  exact ⟨vs, h1, subL_R hok hS hP h2⟩
 | .tupS cs, v, h => by
  rw [R] at h
  obtain ⟨vs, h1, h2⟩ := h
  simp only [SV.sub]
  rw [R]
  exact ⟨vs, h1, subL_R hok hS hP h2⟩
 | .mix cs, v, h => by
  rw [R] at h
  obtain ⟨vs, rfl, h1, h2⟩ := h
  exact ofCells_R (subL_R hok hS hP h2) h1
theorem subL_R {ok' : Nat → Prop} {κ : Nat} {L : PV} (hok : ∀ b, ok b → ok' b) (hS : R ok' β w (slcTo L) (β κ)) (hP : ∀ b off, β κ = .pointer (some ⟨b, 0, none⟩) → R ok' β w (ptrTo off L) (.pointer (some ⟨b, off, none⟩))) : ∀ {xs : List SV} {vs : List Value}, RL ok β w xs vs → RL ok' β w (SV.subL κ L xs) vs
 | [], [], h => trivial
 | [], _ :: _, h => h.elim
 | _ :: _, [], h => h.elim
 | x :: xs, v :: vs, h => ⟨sub_R hok hS hP h.1, subL_R hok hS hP h.2⟩
end
theorem subL_length {κ : Nat} {L : PV} : ∀ xs : List SV, (SV.subL κ L xs).length = xs.length
 | [] => rfl
 | x :: xs => by rw [SV.subL, List.length_cons, List.length_cons, subL_length xs]
theorem slcTo_keys (L : PV) : (slcTo L).keys = [] := by cases L <;> rfl
theorem ptrTo_keys (off : Nat) (L : PV) : (ptrTo off L).keys = [] := by
 cases L <;> try rfl
 unfold ptrTo
 simp only [beq_ite]
 split <;> rfl
mutual
theorem sub_keys {κ : Nat} {L : PV} : ∀ (x : SV) (κ' : Nat), κ' ∈ (x.sub κ L).keys → κ' ∈ x.keys ∧ κ' ≠ κ
 | .no, κ', h => by simp [SV.sub, SV.keys] at h
 | .p x, κ', h => by simp [SV.sub, SV.keys] at h
 | .elt y, κ', h => by simp [SV.sub, SV.keys] at h
 | .eltF y f, κ', h => by simp [SV.sub, SV.keys] at h
 | .glob g, κ', h => by simp [SV.sub, SV.keys] at h
 | .nilQ M, κ', h => by simp [SV.sub, SV.keys] at h
 | .ptr q off, κ', h => by
  simp only [SV.sub, beq_ite] at h
  split at h
  ·rw [ptrTo_keys] at h; cases h
  ·simp only [SV.keys, List.mem_singleton] at h ⊢
   subst h
   exact ⟨rfl, by assumption⟩
 | .rowE q sz i, κ', h => by
  simp only [SV.sub, beq_ite] at h
  split at h
  ·simp [SV.keys] at h
  ·simp only [SV.keys, List.mem_singleton] at h ⊢
   subst h
   exact ⟨rfl, by assumption⟩
 | .tl q sz i, κ', h => by
  simp only [SV.sub, beq_ite] at h
  split at h
  ·simp [SV.keys] at h
  ·simp only [SV.keys, List.mem_singleton] at h ⊢
   subst h
   exact ⟨rfl, by assumption⟩
 | .slc q, κ', h => by
  simp only [SV.sub, beq_ite] at h
  split at h
  ·rw [slcTo_keys] at h; cases h
  ·simp only [SV.keys, List.mem_singleton] at h ⊢
   subst h
   exact ⟨rfl, by assumption⟩
 | .fn f caps, κ', h => by
  simp only [SV.sub, SV.keys] at h ⊢
  exact subL_keys caps κ' h
 | .tupS cs, κ', h => by
  simp only [SV.sub, SV.keys] at h ⊢
  exact subL_keys cs κ' h
 | .mix cs, κ', h => by
  simp only [SV.sub] at h
  simp only [SV.keys]
  exact subL_keys cs κ' (ofCells_keys h)
theorem subL_keys {κ : Nat} {L : PV} : ∀ (l : List SV) (κ' : Nat), κ' ∈ SV.keysL (SV.subL κ L l) → κ' ∈ SV.keysL l ∧ κ' ≠ κ
 | [], κ', h => by simp [SV.subL, SV.keysL] at h
 | x :: xs, κ', h => by
  simp only [SV.subL, SV.keysL, List.mem_append] at h ⊢
  rcases h with h | h
  ·have := sub_keys x κ' h
   exact ⟨.inl this.1, this.2⟩
  ·have := subL_keys xs κ' h
   exact ⟨.inr this.1, this.2⟩
end
theorem St_sub (hC : CxOk C) (h : StO C n F ok0 w0 ok β s a w) {κ : Nat} (hmine : (s.η κ).mine = true) (L : PV) {ok' : Nat → Prop} (hok' : ok' = fun b => ok b ∨ blockOf (β κ) = some b) (hS : R ok' β w (slcTo L) (β κ)) (hP : ∀ b off, β κ = .pointer (some ⟨b, 0, none⟩) → R ok' β w (ptrTo off L) (.pointer (some ⟨b, off, none⟩))) :
  St C n F ok0 w0 (match s with | ⟨ρ, η⟩ => ⟨fun t => (ρ t).sub κ L, fun t => cond (Nat.beq t κ) .no ((η t).sub κ L)⟩) a w := by
 have hsub : ∀ b, ok b → ok' b := fun b hb => by rw [hok']; exact .inl hb
 have hblk : ∀ b, blockOf (β κ) = some b → ∀ κ', κ' ≠ κ → (s.η κ').live = true → blockOf (β κ') ≠ some b := fun b hb κ' hne hl hb' => hne ((mine_block h hmine hb).2.2 κ' hl hb')
 have hm : ∀ q, (cond (Nat.beq q κ) AO.no ((s.η q).sub κ L)).mine = true → (s.η q).mine = true ∧ q ≠ κ := by
  intro q hq
  rw [beq_ite] at hq
  split at hq
  ·simp [AO.mine] at hq
  ·refine ⟨?_, by assumption⟩
   cases e2 : s.η q <;> simp_all [AO.sub, AO.mine]
 have hl2 : ∀ q, (s.η q).live = true → q ≠ κ → (cond (Nat.beq q κ) AO.no ((s.η q).sub κ L)).live = true := by
  intro q hq hne
  rw [beq_ite, if_neg hne]
  cases e2 : s.η q <;> simp_all [AO.sub, AO.live]
 refine ⟨ok', β,
  {lt := fun b hb => by
    rw [hok'] at hb
    rcases hb with hb | hb
    ·exact h.lt b hb
    ·exact OB_lt (h.η κ) (mine_live hmine) hb
   new := fun b hb => by
    rw [hok'] at hb
    rcases hb with hb | hb
    ·exact h.new b hb
    ·exact .inr (mine_block h hmine hb).2.1
   old := fun b hb => hsub b (h.old b hb)
   gx := GX_stay hC h.gx (Stay.refl _ _) h.lt hsub
   defers := h.defers
   size := h.size
   ρ := fun t => sub_R hsub hS hP (h.ρ t)
   η := fun q => ?_
   ro := fun q t' x b hη hb => ?_
   dis := fun q q' b h1 h2 h3 h4 => h.dis q q' b (hm q h1).1 (hm q' h2).1 h3 h4
   wf := ⟨fun t' q hq => ?_, fun t' q hq => ?_⟩
   below := h.below
   n2 := h.n2
   pin := h.pin }⟩
 ·show OB C ok' β w _ q (cond (Nat.beq q κ) AO.no ((s.η q).sub κ L))
  rw [beq_ite]
  split
  ·trivial
  ·rename_i hne
   have hq := h.η q
   have hnb : ∀ b, (s.η q).live = true → blockOf (β q) = some b → ¬ ok b → ¬ ok' b := by
    intro b hl hb hn hc
    rw [hok'] at hc
    rcases hc with hc | hc
    ·exact hn hc
    ·exact hblk b hc q hne hl hb
   cases e2 : s.η q with
   | no => trivial
   | row t' sz' L' =>
    rw [e2] at hq
    exact OB_move hq (fun _ => rfl) (fun _ _ => rfl) hsub (Stay.refl _ _) (fun _ _ _ _ => rfl) (fun b _ hb _ hn => hnb b (by rw [e2]; rfl) hb hn)
   | it l' pos =>
    rw [e2] at hq
    exact OB_move hq (fun _ => rfl) (fun _ _ => rfl) hsub (Stay.refl _ _) (fun _ _ _ _ => rfl) (fun b _ hb _ hn => hnb b (by rw [e2]; rfl) hb hn)
   | ms t0 sk0 L0 B0 c0 m0 =>
    rw [e2] at hq
    exact OB_move hq (fun _ => rfl) (fun _ _ => rfl) hsub (Stay.refl _ _) (fun _ _ _ _ => rfl) (fun b _ hb _ hn => hnb b (by rw [e2]; rfl) hb hn)
   | mi κ0 m0 s0 q0 l0 =>
    rw [e2] at hq
    exact OB_move hq (fun _ => rfl) (fun _ _ => rfl) hsub (Stay.refl _ _) (fun _ _ _ _ => rfl) (fun b _ hb _ hn => hnb b (by rw [e2]; rfl) hb hn)
   | mp t' sk L' =>
    rw [e2] at hq
    exact OB_move hq (fun _ => rfl) (fun _ _ => rfl) hsub (Stay.refl _ _) (fun _ _ _ _ => rfl) (fun b _ hb _ hn => hnb b (by rw [e2]; rfl) hb hn)
   | fm t' ks xs =>
    rw [e2] at hq
    obtain ⟨r, es, clock, q1, q2, q3, q4, q5, q6, q7⟩ := hq
    exact ⟨r, es, clock, q1, q2, hnb r (by rw [e2]; rfl) (by rw [q1]; rfl) q3, q4, q5, subL_R hsub hS hP q6, q7⟩
   | rp t' xs =>
    rw [e2] at hq
    obtain ⟨⟨vs, q1, q2, q3, q4⟩, q5⟩ := hq
    refine ⟨⟨vs, ?_, ?_, q3, subL_R hsub hS hP q4⟩, fun k hk => ⟨hnb k (by rw [e2]; rfl) (ownBlock_blockOf hk) (q5 k hk).1, (q5 k hk).2⟩⟩
    ·rw [subL_length]; exact q1
    ·rw [subL_length]; exact q2
   | var own' t' x =>
    rw [e2] at hq
    obtain ⟨b, v, q1, q2, q3, q4, q5⟩ := hq
    exact ⟨b, v, q1, q2, sub_R hsub hS hP q3, hnb b (by rw [e2]; rfl) (by rw [q1]; rfl) q4, q5⟩
 ·change cond (Nat.beq q κ) AO.no ((s.η q).sub κ L) = _ at hη
  rw [beq_ite] at hη
  split at hη
  ·cases hη
  ·cases e2 : s.η q with
   | no => rw [e2] at hη; cases hη
   | row t' sz' L' => rw [e2] at hη; cases hη
   | mp t' sk L' => rw [e2] at hη; cases hη
   | it l' pos => rw [e2] at hη; cases hη
   | ms t0 sk0 L0 B0 c0 m0 => rw [e2] at hη; cases hη
   | mi κ0 m0 s0 q0 l0 => rw [e2] at hη; cases hη
   | fm t' ks xs => rw [e2] at hη; cases hη
   | rp t' xs => rw [e2] at hη; cases hη
   | var own' t'' x' =>
    rw [e2] at hη
    simp only [AO.sub, AO.var.injEq] at hη
    obtain ⟨rfl, rfl, _⟩ := hη
    exact h.ro q _ _ b e2 hb
 ·obtain ⟨g1, g2⟩ := sub_keys _ q hq
  exact hl2 q (h.wf.ρ t' q g1) g2
 ·change q ∈ AO.keys (cond (Nat.beq t' κ) AO.no ((s.η t').sub κ L)) at hq
  rw [beq_ite] at hq
  split at hq
  ·simp [AO.keys] at hq
  ·cases e2 : s.η t' with
   | no => rw [e2] at hq; simp [AO.sub, AO.keys] at hq
   | row t'' sz' L' => rw [e2] at hq; simp [AO.sub, AO.keys] at hq
   | mp t'' sk L' => rw [e2] at hq; simp [AO.sub, AO.keys] at hq
   | it l' pos => rw [e2] at hq; simp [AO.sub, AO.keys] at hq
   | ms t0 sk0 L0 B0 c0 m0 => rw [e2] at hq; simp [AO.sub, AO.keys] at hq
   | mi κ0 m0 s0 q0 l0 => rw [e2] at hq; simp [AO.sub, AO.keys] at hq
   | fm t'' ks xs =>
    rw [e2] at hq
    obtain ⟨g1, g2⟩ := subL_keys xs q hq
    exact hl2 q (h.wf.η t' q (by rw [e2]; exact g1)) g2
   | rp t'' xs =>
    rw [e2] at hq
    obtain ⟨g1, g2⟩ := subL_keys xs q hq
    exact hl2 q (h.wf.η t' q (by rw [e2]; exact g1)) g2
   | var own' t'' x' =>
    rw [e2] at hq
    obtain ⟨g1, g2⟩ := sub_keys x' q hq
    exact hl2 q (h.wf.η t' q (by rw [e2]; exact g1)) g2
theorem St_frz (hC : CxOk C) (h : St C n F ok0 w0 s a w) (κ : Nat) : St C n F ok0 w0 (s.frz κ) a w := by
 obtain ⟨ok, β, h⟩ := h
 unfold S.frz
 split
 ·rename_i t sz L e
  have hob := h.η κ
  rw [e] at hob
  obtain ⟨hpos, ⟨xs, hrow, hrr⟩, hnok⟩ := hob
  refine St_sub hC h (κ := κ) (by rw [e]; rfl) (.lst L) rfl ?_ fun b off hb => by unfold ptrTo; trivial
  show R _ β w (.p (.lst L)) (β κ)
  rw [R]
  exact row_lst hrow hrr (fun b hb => .inl hb) fun b hb => .inr (ownBlock_blockOf hb)
 ·rename_i t cs e
  have hob := h.η κ
  rw [e] at hob
  obtain ⟨b, v, q1, q2, q3, q4, q5, q6, q7⟩ := hob
  have hbk : blockOf (β κ) = some b := by rw [q1]; rfl
  have hcell : ∀ j u, v.cells[j]? = some u → w.cell? ((⟨b, 0, none⟩ : Addr).add j) = some u := by
   intro j u hj
   rw [add_plain]
   simp only [World.cell?, q2]
   simpa using hj
  have hv : RP (fun b' => ok b' ∨ blockOf (β κ) = some b') w (.agg cs) v := by
   rw [R] at q3
   exact RP_stay (fun b hb => .inl hb) (Stay.refl _ _) q3
  refine St_sub hC h (κ := κ) (by rw [e]; rfl) (.agg cs) rfl trivial fun b' off hb => ?_
  rw [q1] at hb
  simp only [Value.pointer.injEq, Option.some.injEq, Addr.mk.injEq, and_true] at hb
  subst hb
  show R _ β w (cond (Nat.beq off 0) (.elt (.agg cs)) (.eltF (.agg cs) off)) _
  rw [beq_ite]
  split
  ·rename_i e0
   subst e0
   rw [R]
   exact ⟨⟨b, 0, none⟩, v, rfl, .inr hbk, hv, hcell⟩
  ·rw [R]
   exact ⟨⟨b, 0, none⟩, v, by rw [add_plain, Nat.zero_add], .inr hbk, hv, hcell⟩
 ·exact ⟨ok, β, h⟩
theorem St_frzL (hC : CxOk C) : ∀ (l : List Nat) {s : S}, St C n F ok0 w0 s a w → St C n F ok0 w0 (s.frzL l) a w
 | [], s, h => h
 | κ :: l, s, h => St_frzL hC l (St_frz hC h κ)
theorem mem_keysL0 {l : List SV} {κ : Nat} (h : κ ∈ SV.keysL l) : ∃ x ∈ l, κ ∈ x.keys := by
 induction l with
 | nil => cases h
 | cons x l ih =>
  simp only [SV.keysL, List.mem_append] at h
  rcases h with h | h
  ·exact ⟨x, List.mem_cons_self .., h⟩
  ·obtain ⟨y, hy, hk⟩ := ih h
   exact ⟨y, List.mem_cons_of_mem _ hy, hk⟩
theorem keysL_set {cs : List SV} {i : Nat} {x : SV} {κ : Nat} (h : κ ∈ SV.keysL (cs.set i x)) : κ ∈ SV.keysL cs ∨ κ ∈ x.keys := by
 obtain ⟨y, hy, hk⟩ := mem_keysL0 h
 rcases List.mem_or_eq_of_mem_set hy with hy | hy
 ·exact .inl (keysL_mem hy hk)
 ·rw [hy] at hk; exact .inr hk
theorem St_nl0 (κ i q t sz : Nat) {s : S} (h : St C n F ok0 w0 s a w) : St C n F ok0 w0 (s.nl0 κ i q t sz) a w := by
 unfold S.nl0
 split
 ·rename_i own ty cs eκ
  split
  ·rename_i eq ei
   cases hc : (Nat.blt 0 sz && Nat.blt q 2000) with
   | false => exact h
   | true =>
    simp only [Bool.and_eq_true, Nat.blt_eq] at hc
    obtain ⟨hsz, hq2⟩ := hc
    obtain ⟨ok, β, h⟩ := h
    have hκq : κ ≠ q := by rintro rfl; rw [eκ] at eq; cases eq
    have hb : ∀ κ', (s.η κ').live = true → (if κ' = q then Value.slice none 0 0 else β κ') = β κ' := fun κ' hl => if_neg (by rintro rfl; rw [eq] at hl; cases hl)
    have hη : ∀ k, (cond (Nat.beq k κ) (AO.var own ty (.mix (cs.set i (.slc q)))) (cond (Nat.beq k q) (AO.row t sz []) (s.η k))) = if k = κ then AO.var own ty (.mix (cs.set i (.slc q))) else if k = q then AO.row t sz [] else s.η k := fun k => by rw [beq_ite, beq_ite]
    have hlive : ∀ k, (s.η k).live = true → (if k = κ then AO.var own ty (.mix (cs.set i (.slc q))) else if k = q then AO.row t sz [] else s.η k).live = true := by
     intro k hk
     split
     ·rfl
     ·split
      ·rfl
      ·exact hk
    refine ⟨ok, fun k => if k = q then .slice none 0 0 else β k, ?_⟩
    refine { h with
     defers := h.defers
     ρ := fun t' => R_keys (fun κ' hκ' => hb κ' (h.wf.ρ t' κ' hκ')) (h.ρ t')
     η := fun k => ?_
     ro := fun k t' x b hη' hbk => ?_
     dis := fun k k' b h1 h2 h3 h4 => ?_
     wf := ⟨fun t' k hk => ?_, fun t' k hk => ?_⟩
     pin := fun k hk => by show (if k = q then _ else β k) = _; rw [if_neg (by omega)]; exact h.pin k hk }
    ·show OB C ok _ w _ k (cond (Nat.beq k κ) _ (cond (Nat.beq k q) _ (s.η k)))
     rw [hη]
     by_cases e1 : k = κ
     ·rw [if_pos e1]
      subst e1
      have hob := h.η k
      rw [eκ] at hob
      obtain ⟨b, v, q1, q2, q3, q4, q5, q6, q7⟩ := hob
      refine ⟨b, v, (if_neg hκq).trans q1, q2, ?_, q4, q5, q6, q7⟩
      rw [R] at q3 ⊢
      obtain ⟨vs, g1, g2, g3⟩ := q3
      obtain ⟨u, hu, hr⟩ := RL_get g3 ei
      rw [R, RP] at hr
      have g4 : RL ok (fun k => if k = q then Value.slice none 0 0 else β k) w cs vs := RL_keys (fun κ' hκ' => hb κ' (h.wf.η k κ' (by rw [eκ]; exact hκ'))) g3
      have g5 := RL_set (x := .slc q) (v := u) i g4 (by rw [R]; exact ⟨hr.trans (if_pos rfl).symm, by rw [hr]; rfl⟩)
      have e : vs.set i u = vs := by
       apply List.ext_getElem?
       intro j
       rw [List.getElem?_set]
       have hil := (List.getElem?_eq_some_iff.1 hu).1
       by_cases e : i = j
       ·subst e; simp [hil]
        have := (List.getElem?_eq_some_iff.1 hu).2
        simpa using this.symm
       ·simp [e]
      rw [e] at g5
      exact ⟨vs, g1, g2, g5⟩
     ·rw [if_neg e1]
      by_cases e2 : k = q
      ·rw [if_pos e2]
       subst e2
       refine ⟨hsz, ⟨[], ?_, ⟨by simp, fun j x hx => by simp at hx⟩⟩, fun b hb => ?_⟩
       ·show w.ownsRow 0 t sz (if k = k then Value.slice none 0 0 else β k) _ _
        rw [if_pos rfl]; exact ⟨by simp, .inl ⟨rfl, rfl⟩⟩
       ·change (if k = k then Value.slice none 0 0 else β k).ownBlock = some b at hb
        rw [if_pos rfl] at hb; simp [Value.ownBlock] at hb
      ·rw [if_neg e2]
       exact OB_move (h.η k) (fun hl => hb k hl) (fun κ' hκ' => hb κ' (h.wf.η k κ' hκ')) (fun _ h => h) (Stay.refl _ _) (fun _ _ _ _ => rfl) (fun _ _ _ _ h => h)
    ·change cond (Nat.beq k κ) _ (cond (Nat.beq k q) _ (s.η k)) = _ at hη'
     rw [hη] at hη'
     by_cases e1 : k = κ
     ·rw [if_pos e1] at hη'
      injection hη' with g1 g2 g3
      subst e1
      change blockOf (if k = q then Value.slice none 0 0 else β k) = some b at hbk
      rw [if_neg hκq] at hbk
      exact h.ro k ty _ b (by rw [eκ, g1]) hbk
     ·rw [if_neg e1] at hη'
      by_cases e2 : k = q
      ·rw [if_pos e2] at hη'; cases hη'
      ·rw [if_neg e2] at hη'
       change blockOf (if k = q then Value.slice none 0 0 else β k) = some b at hbk
       rw [if_neg e2] at hbk
       exact h.ro k t' x b hη' hbk
    ·have hm : ∀ k, (cond (Nat.beq k κ) (AO.var own ty (.mix (cs.set i (.slc q)))) (cond (Nat.beq k q) (AO.row t sz []) (s.η k))).mine = true → k ≠ q → (s.η k).mine = true := by
      intro k hk hne
      rw [hη] at hk
      by_cases e1 : k = κ
      ·rw [if_pos e1] at hk; rw [e1, eκ]; exact hk
      ·rw [if_neg e1, if_neg hne] at hk; exact hk
     have hnb : ∀ k, (if k = q then Value.slice none 0 0 else β k) = β k ∨ k = q := fun k => by
      by_cases e : k = q
      ·exact .inr e
      ·exact .inl (if_neg e)
     have hne : ∀ k, blockOf (if k = q then Value.slice none 0 0 else β k) = some b → k ≠ q := by
      rintro k hk rfl
      rw [if_pos rfl] at hk
      simp [blockOf] at hk
     have n1 := hne k h3
     have n2 := hne k' h4
     change blockOf (if k = q then Value.slice none 0 0 else β k) = some b at h3
     change blockOf (if k' = q then Value.slice none 0 0 else β k') = some b at h4
     rw [if_neg n1] at h3
     rw [if_neg n2] at h4
     exact h.dis k k' b (hm k h1 n1) (hm k' h2 n2) h3 h4
    ·show (cond (Nat.beq k κ) _ (cond (Nat.beq k q) _ (s.η k))).live = true
     rw [hη]
     exact hlive k (h.wf.ρ t' k hk)
    ·change k ∈ (cond (Nat.beq t' κ) _ (cond (Nat.beq t' q) _ (s.η t'))).keys at hk
     rw [hη] at hk
     show (cond (Nat.beq k κ) _ (cond (Nat.beq k q) _ (s.η k))).live = true
     rw [hη]
     by_cases e1 : t' = κ
     ·rw [if_pos e1] at hk
      rcases keysL_set (by simpa only [AO.keys, SV.keys] using hk) with hk | hk
      ·exact hlive k (h.wf.η κ k (by rw [eκ]; simpa only [AO.keys, SV.keys] using hk))
      ·simp only [SV.keys, List.mem_singleton] at hk
       subst hk
       rw [if_neg (fun e => hκq e.symm), if_pos rfl]
       rfl
     ·rw [if_neg e1] at hk
      by_cases e2 : t' = q
      ·rw [if_pos e2] at hk; cases hk
      ·rw [if_neg e2] at hk
       exact hlive k (h.wf.η t' k hk)
  ·exact h
 ·exact h
theorem LEL_R {ok : Nat → Prop} {β : Nat → Value} {w : World} : ∀ {xs ys : List SV} {vs : List Value}, LEL xs ys → RL ok β w xs vs → RL ok β w ys vs
 | [], [], [], _, h => h
 | [], [], _ :: _, _, h => h.elim
 | [], _ :: _, _, hl, _ => hl.elim
 | _ :: _, [], _, hl, _ => hl.elim
 | _ :: _, _ :: _, [], _, h => h.elim
 | x :: xs, y :: ys, v :: vs, hl, h => ⟨hl.1 _ _ _ _ h.1, LEL_R hl.2 h.2⟩
theorem LEL_length : ∀ {xs ys : List SV}, LEL xs ys → xs.length = ys.length
 | [], [], _ => rfl
 | [], _ :: _, h => h.elim
 | _ :: _, [], h => h.elim
 | x :: xs, y :: ys, h => by rw [List.length_cons, List.length_cons, LEL_length h.2]
theorem St_ge0 {σ : S} (h : St C n F ok0 w0 s a w) (hg : Ge0 s σ) : St C n F ok0 w0 σ a w := by
 obtain ⟨ok, β, h⟩ := h
 have hm : ∀ κ, (σ.η κ).mine = true → (s.η κ).mine = true := by
  intro κ hκ
  rcases hg.η κ with e | e | ⟨own', t, x, y, e1, e2, _⟩ | ⟨t, ks, xs, ys, e1, e2, _⟩ | ⟨t, xs, ys, e1, e2, _⟩
  ·rw [e] at hκ; simp [AO.mine] at hκ
  ·rwa [e]
  ·rw [e2] at hκ; rw [e1]; exact hκ
  ·rw [e1]; rfl
  ·rw [e1]; rfl
 refine ⟨ok, β, { h with
   defers := h.defers
   ρ := fun t => hg.ρ t _ _ _ _ (h.ρ t)
   η := fun κ => ?_
   ro := fun κ t x b hη hb => ?_
   dis := fun κ κ' b h1 h2 h3 h4 => h.dis κ κ' b (hm κ h1) (hm κ' h2) h3 h4
   wf := hg.wf }⟩
 ·have hob := h.η κ
  rcases hg.η κ with e | e | ⟨own', t, x, y, e1, e2, hle⟩ | ⟨t, ks, xs, ys, e1, e2, hle⟩ | ⟨t, xs, ys, e1, e2, hle⟩
  ·rw [e]; trivial
  ·rw [← e]; exact hob
  ·rw [e1] at hob
   rw [e2]
   obtain ⟨b, v, q1, q2, q3, q4⟩ := hob
   exact ⟨b, v, q1, q2, hle _ _ _ _ q3, q4⟩
  ·rw [e1] at hob
   rw [e2]
   obtain ⟨r, es, clock, q1, q2, q3, q4, q5, q6, q7⟩ := hob
   exact ⟨r, es, clock, q1, q2, q3, q4, q5, LEL_R hle q6, q7⟩
  ·rw [e1] at hob
   rw [e2]
   obtain ⟨⟨vs, q1, q2, q3, q4⟩, q5⟩ := hob
   have hl := LEL_length hle
   exact ⟨⟨vs, hl ▸ q1, hl ▸ q2, q3, LEL_R hle q4⟩, q5⟩
 ·rcases hg.η κ with e | e | ⟨own', t', x', y, e1, e2, hle⟩ | ⟨t', ks, xs, ys, e1, e2, hle⟩ | ⟨t', xs, ys, e1, e2, hle⟩
  ·rw [e] at hη; cases hη
  ·rw [← e] at hη; exact h.ro κ t x b hη hb
  ·rw [e2] at hη
   simp only [AO.var.injEq] at hη
   obtain ⟨rfl, rfl, _⟩ := hη
   exact h.ro κ _ _ b e1 hb
  ·rw [e2] at hη; cases hη
  ·rw [e2] at hη; cases hη
theorem St_mx (κ : Nat) {s : S} (h : St C n F ok0 w0 s a w) : St C n F ok0 w0 (s.mx κ) a w := by
 unfold S.mx
 split
 ·rename_i own ty cs eκ
  have hw : WF s := by obtain ⟨ok, β, h⟩ := h; exact h.wf
  have hη : ∀ k, (cond (Nat.beq k κ) (AO.var own ty (.mix (cs.map .p))) (s.η k)) = if k = κ then AO.var own ty (.mix (cs.map .p)) else s.η k := fun k => by rw [beq_ite]
  have hlive : ∀ k, (s.η k).live = true → (cond (Nat.beq k κ) (AO.var own ty (.mix (cs.map .p))) (s.η k)).live = true := fun k hk => by
   rw [hη]
   split
   ·rfl
   ·exact hk
  refine St_ge0 h ⟨fun t => LE.refl _, fun k => ?_, ⟨fun t k hk => hlive k (hw.ρ t k hk), fun t k hk => ?_⟩⟩
  ·show OLE (s.η k) (cond (Nat.beq k κ) _ (s.η k))
   rw [hη]
   split
   ·rename_i e
    subst e
    refine .inr (.inr (.inl ⟨own, ty, _, _, eκ, rfl, fun ok β w v hr => ?_⟩))
    rw [R, RP] at hr
    obtain ⟨vs, h1, h2, h3⟩ := hr
    rw [R]
    exact ⟨vs, h1, h2, RL_map_p h3⟩
   ·exact .inr (.inl rfl)
  ·change k ∈ (cond (Nat.beq t κ) _ (s.η t)).keys at hk
   rw [hη] at hk
   split at hk
   ·simp only [AO.keys, SV.keys, keysL_map_p] at hk
    cases hk
   ·exact hlive k (hw.η t k hk)
 ·exact h
theorem St_nl (κ i q t sz : Nat) {s : S} (h : St C n F ok0 w0 s a w) : St C n F ok0 w0 (s.nl κ i q t sz) a w := St_nl0 κ i q t sz (St_mx κ h)
theorem St_nlL : ∀ (l : List (Nat × Nat × Nat × Nat × Nat)) {s : S}, St C n F ok0 w0 s a w → St C n F ok0 w0 (s.nlL l) a w
 | [], s, h => h
 | (κ, i, q, t, sz) :: l, s, h => St_nlL l (St_nl κ i q t sz h)
theorem St_ge {σ : S} (h : St C n F ok0 w0 s a w) (hg : Ge s σ) : St C n F ok0 w0 σ a w := by
 obtain ⟨ok, β, h⟩ := h
 obtain ⟨g, hg⟩ := hg
 have hm : ∀ κ, (σ.η κ).mine = true → (s.η (g κ)).mine = true := by
  intro κ hκ
  have hκ : ((σ.η κ).ren g).mine = true := by rw [AO.ren_mine]; exact hκ
  rcases hg.η κ with e | e | ⟨own', t, x, y, e1, e2, _⟩ | ⟨t, ks, xs, ys, e1, e2, _⟩ | ⟨t, xs, ys, e1, e2, _⟩
  ·rw [e] at hκ; simp [AO.mine] at hκ
  ·rwa [e]
  ·rw [e2] at hκ; rw [e1]; exact hκ
  ·rw [e1]; rfl
  ·rw [e1]; rfl
 refine ⟨ok, fun κ => β (g κ), { h with
   defers := h.defers
   ρ := fun t => (R_ren _ _).1 (hg.ρ t _ _ _ _ (h.ρ t))
   η := fun κ => ?_
   ro := fun κ t x b hη hb => ?_
   dis := fun κ κ' b h1 h2 h3 h4 => hg.inj κ κ' h1 h2 (h.dis _ _ b (hm κ h1) (hm κ' h2) h3 h4)
   pin := fun κ hκ => by rw [hg.pin κ hκ]; exact h.pin κ hκ
   wf := hg.wf }⟩
 ·rw [← OB_ren]
  have hob := h.η (g κ)
  rcases hg.η κ with e | e | ⟨own', t, x, y, e1, e2, hle⟩ | ⟨t, ks, xs, ys, e1, e2, hle⟩ | ⟨t, xs, ys, e1, e2, hle⟩
  ·rw [e]; trivial
  ·rw [← e]; exact hob
  ·rw [e1] at hob
   rw [e2]
   obtain ⟨b, v, q1, q2, q3, q4⟩ := hob
   exact ⟨b, v, q1, q2, hle _ _ _ _ q3, q4⟩
  ·rw [e1] at hob
   rw [e2]
   obtain ⟨r, es, clock, q1, q2, q3, q4, q5, q6, q7⟩ := hob
   exact ⟨r, es, clock, q1, q2, q3, q4, q5, LEL_R hle q6, q7⟩
  ·rw [e1] at hob
   rw [e2]
   obtain ⟨⟨vs, q1, q2, q3, q4⟩, q5⟩ := hob
   have hl := LEL_length hle
   exact ⟨⟨vs, hl ▸ q1, hl ▸ q2, q3, LEL_R hle q4⟩, q5⟩
 ·have hη : (σ.η κ).ren g = .var false t (x.ren g) := by rw [hη]; rfl
  rcases hg.η κ with e | e | ⟨own', t', x', y, e1, e2, hle⟩ | ⟨t', ks, xs, ys, e1, e2, hle⟩ | ⟨t', xs, ys, e1, e2, hle⟩
  ·rw [e] at hη; cases hη
  ·rw [← e] at hη; exact h.ro _ _ _ b hη hb
  ·rw [e2] at hη
   simp only [AO.var.injEq] at hη
   obtain ⟨rfl, rfl, _⟩ := hη
   exact h.ro _ _ _ b e1 hb
  ·rw [e2] at hη; cases hη
  ·rw [e2] at hη; cases hη
mutual
theorem SV.ren_id : ∀ x : SV, x.ren (fun k => k) = x
 | .fn f caps => by rw [SV.ren, SV.renL_id caps]
 | .mix cs => by rw [SV.ren, SV.renL_id cs]
 | .tupS cs => by rw [SV.ren, SV.renL_id cs]
 | .no | .p _ | .elt _ | .eltF _ _ | .rowE _ _ _ | .tl _ _ _ | .ptr _ _ | .slc _ | .glob _ | .nilQ _ => rfl
theorem SV.renL_id : ∀ l : List SV, SV.renL (fun k => k) l = l
 | [] => rfl
 | x :: l => by rw [SV.renL, SV.ren_id x, SV.renL_id l]
end
theorem AO.ren_id (o : AO) : o.ren (fun k => k) = o := by
 cases o with
 | var own t x => show AO.var own t (x.ren _) = _; rw [SV.ren_id]
 | fm t ks xs => show AO.fm t ks (SV.renL _ xs) = _; rw [SV.renL_id]
 | rp t xs => show AO.rp t (SV.renL _ xs) = _; rw [SV.renL_id]
 | _ => rfl
theorem Ge0.ge {s σ : S} (h : Ge0 s σ) : Ge s σ :=
 ⟨fun k => k, ⟨fun t => by rw [SV.ren_id]; exact h.ρ t, fun κ => by rw [AO.ren_id]; exact h.η κ, fun _ _ _ _ e => e, fun _ _ => rfl, h.wf⟩⟩
theorem look_mem : ∀ {l : List (Nat × SV)} {t : Nat}, look l t = .no ∨ (t, look l t) ∈ l
 | [], t => .inl rfl
 | (k, x) :: r, t => by
  simp only [look, beq_ite]
  split
  ·rename_i e; subst e; exact .inr (List.mem_cons_self ..)
  ·exact look_mem.imp id (List.mem_cons_of_mem _)
theorem lookO_mem : ∀ {l : List (Nat × AO)} {t : Nat}, lookO l t = .no ∨ (t, lookO l t) ∈ l
 | [], t => .inl rfl
 | (k, x) :: r, t => by
  simp only [lookO, beq_ite]
  split
  ·rename_i e; subst e; exact .inr (List.mem_cons_self ..)
  ·exact lookO_mem.imp id (List.mem_cons_of_mem _)
theorem flatL_eq : ∀ (ts : List Nat) (s : S) (k : List (Nat × SV) → Prop), flatL ts s k = k (ts.map fun t => (t, s.ρ t))
 | [], s, k => rfl
 | t :: ts, s, k => by simp only [flatL, SV.force_eq, flatL_eq ts, List.map_cons]
theorem flatO_eq : ∀ (ts : List Nat) (s : S) (k : List (Nat × AO) → Prop), flatO ts s k = k (ts.map fun t => (t, s.η t))
 | [], s, k => rfl
 | t :: ts, s, k => by simp only [flatO, AO.force_eq, flatO_eq ts, List.map_cons]
theorem Ge0.keep {s : S} {ts os : List Nat} (hk : okS (ts.map fun t => (t, s.ρ t)) (os.map fun t => (t, s.η t)) = true) : Ge0 s (S.of (ts.map fun t => (t, s.ρ t)) (os.map fun t => (t, s.η t))) := by
 have h1 : ∀ t, look (ts.map fun t => (t, s.ρ t)) t = .no ∨ look (ts.map fun t => (t, s.ρ t)) t = s.ρ t := by
  intro t
  rcases look_mem (l := ts.map fun t => (t, s.ρ t)) (t := t) with e | e
  ·exact .inl e
  ·obtain ⟨q, _, e⟩ := List.mem_map.1 e
   simp only [Prod.mk.injEq] at e
   exact .inr (by rw [← e.2, e.1])
 have h2 : ∀ t, lookO (os.map fun t => (t, s.η t)) t = .no ∨ lookO (os.map fun t => (t, s.η t)) t = s.η t := by
  intro t
  rcases lookO_mem (l := os.map fun t => (t, s.η t)) (t := t) with e | e
  ·exact .inl e
  ·obtain ⟨q, _, e⟩ := List.mem_map.1 e
   simp only [Prod.mk.injEq] at e
   exact .inr (by rw [← e.2, e.1])
 simp only [okS, Bool.and_eq_true, List.all_eq_true] at hk
 refine ⟨fun t => ?_, fun κ => ?_, ⟨fun t κ h => ?_, fun t κ h => ?_⟩⟩
 ·show LE (s.ρ t) (look _ t)
  rcases h1 t with e | e
  ·rw [e]; intro _ _ _ _ _; trivial
  ·rw [e]; exact LE.refl _
 ·show OLE (s.η κ) (lookO _ κ)
  rcases h2 κ with e | e
  ·rw [e]; exact .inl rfl
  ·rw [e]; exact .inr (.inl rfl)
 ·change κ ∈ (look _ t).keys at h
  rcases look_mem (l := ts.map fun t => (t, s.ρ t)) (t := t) with e | e
  ·rw [e] at h; cases h
  ·exact hk.1 _ e κ h
 ·change κ ∈ (lookO _ t).keys at h
  rcases lookO_mem (l := os.map fun t => (t, s.η t)) (t := t) with e | e
  ·rw [e] at h; cases h
  ·exact hk.2 _ e κ h
theorem St_keep {c : Option (List Nat × List Nat)} {k : S → Prop} (h : St C n F ok0 w0 s a w) (hk : keepK c s k) : ∃ σ, St C n F ok0 w0 σ a w ∧ k σ := by
 unfold keepK at hk
 split at hk
 ·exact ⟨s, h, hk⟩
 ·rename_i ts os
  rw [flatL_eq, flatO_eq] at hk
  exact ⟨_, St_ge0 h (Ge0.keep hk.1), hk.2⟩
theorem only_R {ok' : Nat → Prop} {β' : Nat → Value} {w' : World} {x : SV} {i : Nat} {v : Value} (h : R ok' β' w' x v) : R ok' β' w' (x.only i) v := by
 cases x with
 | ptr κ off =>
  show R ok' β' w' (cond (Nat.beq κ i) (.ptr κ off) .no) v
  cases Nat.beq κ i with
  | true => exact h
  | false => trivial
 | slc κ =>
  show R ok' β' w' (cond (Nat.beq κ i) (.slc κ) .no) v
  cases Nat.beq κ i with
  | true => exact h
  | false => trivial
 | _ => trivial
theorem nrm_LE : ∀ (P : List Nat) (d : Option Nat) (x : SV), LE x (x.nrm P d)
 | [], d, x => LE.refl x
 | i :: P, d, x => fun ok β w v h => by
  refine nrm_LE P d _ ok β w v ?_
  cases d with
  | none => exact purge_R h
  | some q =>
   show R ok β w (cond (Nat.beq q i) (x.only i) (x.purge i)) v
   cases Nat.beq q i with
   | true => exact only_R h
   | false => exact purge_R h
theorem only_keys {x : SV} {i κ : Nat} (h : κ ∈ (x.only i).keys) : κ ∈ x.keys ∧ κ = i := by
 cases x with
 | ptr q off =>
  change κ ∈ (cond (Nat.beq q i) (.ptr q off) SV.no).keys at h
  cases e : Nat.beq q i with
  | true =>
   rw [e] at h
   have : q = i := Nat.eq_of_beq_eq_true e
   have h' : κ ∈ (SV.ptr q off).keys := h
   exact ⟨h', by simp [SV.keys] at h'; omega⟩
  | false => rw [e] at h; cases h
 | slc q =>
  change κ ∈ (cond (Nat.beq q i) (.slc q) SV.no).keys at h
  cases e : Nat.beq q i with
  | true =>
   rw [e] at h
   have : q = i := Nat.eq_of_beq_eq_true e
   have h' : κ ∈ (SV.slc q).keys := h
   exact ⟨h', by simp [SV.keys] at h'; omega⟩
  | false => rw [e] at h; cases h
 | _ => cases h
theorem nrm_keys : ∀ (P : List Nat) (d : Option Nat) (x : SV) {κ : Nat}, κ ∈ (x.nrm P d).keys → κ ∈ x.keys ∧ (κ ∈ P → d = some κ)
 | [], d, x, κ, h => ⟨h, fun hc => by cases hc⟩
 | i :: P, d, x, κ, h => by
  obtain ⟨h1, h2⟩ := nrm_keys P d _ h
  cases d with
  | none =>
   obtain ⟨h3, h4⟩ := purge_keys h1
   refine ⟨h3, fun hc => ?_⟩
   rcases List.mem_cons.1 hc with e | hc
   ·exact absurd e h4
   ·exact h2 hc
  | some q =>
   change κ ∈ (cond (Nat.beq q i) (x.only i) (x.purge i)).keys at h1
   cases e : Nat.beq q i with
   | true =>
    rw [e] at h1
    obtain ⟨h3, h4⟩ := only_keys h1
    refine ⟨h3, fun hc => ?_⟩
    rw [h4, Nat.eq_of_beq_eq_true e]
   | false =>
    rw [e] at h1
    obtain ⟨h3, h4⟩ := purge_keys h1
    refine ⟨h3, fun hc => ?_⟩
    rcases List.mem_cons.1 hc with e | hc
    ·exact absurd e h4
    ·exact h2 hc
theorem LEL_map {f : SV → SV} (h : ∀ x, LE x (f x)) : ∀ xs : List SV, LEL xs (xs.map f)
 | [] => trivial
 | x :: xs => ⟨h x, LEL_map h xs⟩
theorem nrmL_keys (P : List Nat) {κ : Nat} : ∀ {xs : List SV}, κ ∈ SV.keysL (xs.map fun x => x.nrm P none) → κ ∈ SV.keysL xs ∧ κ ∉ P
 | [], h => by cases h
 | x :: xs, h => by
  simp only [List.map_cons, SV.keysL, List.mem_append] at h ⊢
  rcases h with h | h
  ·obtain ⟨h1, h2⟩ := nrm_keys P none x h
   exact ⟨.inl h1, fun hc => by cases h2 hc⟩
  ·exact ⟨.inr (nrmL_keys P h).1, (nrmL_keys P h).2⟩
theorem nrmO_OLE (P : List Nat) (o : AO) : OLE o (o.nrm P) := by
 cases o with
 | var own t x => exact .inr (.inr (.inl ⟨own, t, x, _, rfl, rfl, nrm_LE P none x⟩))
 | fm t ks xs => exact .inr (.inr (.inr (.inl ⟨t, ks, xs, _, rfl, rfl, LEL_map (fun x => nrm_LE P none x) xs⟩)))
 | rp t xs => exact .inr (.inr (.inr (.inr ⟨t, xs, _, rfl, rfl, LEL_map (fun x => nrm_LE P none x) xs⟩)))
 | _ => exact .inr (.inl rfl)
theorem nrmO_live (P : List Nat) (o : AO) : (o.nrm P).live = o.live := by cases o <;> rfl
theorem nrmO_keys (P : List Nat) (o : AO) {κ : Nat} (h : κ ∈ (o.nrm P).keys) : κ ∈ o.keys ∧ κ ∉ P := by
 cases o with
 | var own t x =>
  obtain ⟨h1, h2⟩ := nrm_keys P none x h
  exact ⟨h1, fun hc => by cases h2 hc⟩
 | fm t ks xs => exact nrmL_keys P (xs := xs) h
 | rp t xs => exact nrmL_keys P (xs := xs) h
 | _ => cases h
structure Less (s σ : S) : Prop where
 ρ : ∀ t, LE (s.ρ t) (σ.ρ t)
 ρk : ∀ t κ, κ ∈ (σ.ρ t).keys → κ ∈ (s.ρ t).keys
 η : ∀ κ, OLE (s.η κ) (σ.η κ)
 ηl : ∀ κ, (σ.η κ).live = (s.η κ).live
 ηk : ∀ κ q, q ∈ (σ.η κ).keys → q ∈ (s.η κ).keys
theorem Less.ge {s σ : S} (h : Less s σ) (hw : WF s) : Ge0 s σ :=
 ⟨h.ρ, h.η, ⟨fun t κ hk => by rw [h.ηl]; exact hw.ρ t κ (h.ρk t κ hk), fun t κ hk => by rw [h.ηl]; exact hw.η t κ (h.ηk t κ hk)⟩⟩
theorem OLE.rfl' (o : AO) : OLE o o := .inr (.inl rfl)
theorem S.nrm_less (P : List Nat) (s : S) : Less s (s.nrm P) := by
 cases P with
 | nil => exact ⟨fun t => LE.refl _, fun t κ h => h, fun κ => OLE.rfl' _, fun κ => rfl, fun κ q h => h⟩
 | cons i P => exact ⟨fun t => nrm_LE _ _ _, fun t κ h => (nrm_keys _ _ _ h).1, fun κ => nrmO_OLE _ _, fun κ => nrmO_live _ _, fun κ q h => (nrmO_keys _ _ h).1⟩
theorem St_nrm {P : List Nat} (h : St C n F ok0 w0 s a w) : St C n F ok0 w0 (s.nrm P) a w :=
 St_ge0 h ((S.nrm_less P s).ge (by obtain ⟨ok, β, h⟩ := h; exact h.wf))
def S.base (s : S) (u : U) : S := match u.kill with | some κ => s.kill κ | none => s
theorem app_ρ (s : S) (d : Option Nat) (u : U) (t : Nat) : (s.app d u).ρ t = if d = some t then u.x else (s.base u).ρ t := by
 obtain ⟨x, obj, st, kill⟩ := u
 unfold S.app S.base
 cases d with
 | none => cases kill <;> cases st <;> simp <;> rfl
 | some q =>
  by_cases e : t = q
  ·subst e
   rw [if_pos rfl]
   cases obj <;> simp only [S.put_ρ, if_true]
  ·have e' : ¬ (some q = some t) := fun h => e (Option.some.inj h).symm
   rw [if_neg e']
   cases obj <;> cases kill <;> cases st <;> simp only [S.put_ρ, if_neg e] <;> rfl
theorem app_η (s : S) (d : Option Nat) (u : U) (κ : Nat) : (s.app d u).η κ = match (if d = some κ then u.obj else none) with
  | some o => o
  | none => match u.st with
   | some (q, o) => if κ = q then o else (s.base u).η κ
   | none => (s.base u).η κ := by
 obtain ⟨x, obj, st, kill⟩ := u
 unfold S.app S.base
 have hset : ∀ (s : S) (q : Nat) (o : AO), (s.set q o).η κ = if κ = q then o else s.η κ := fun s q o => S.set_η s q o κ
 cases d with
 | none => cases kill <;> cases st <;> simp [hset]
 | some q =>
  by_cases e : κ = q
  ·subst e
   rw [if_pos rfl]
   cases obj with
   | none => cases kill <;> cases st <;> simp [S.put, hset]
   | some o =>
    show ((S.set _ κ o).put κ x).η κ = o
    show (S.set _ κ o).η κ = o
    rw [hset, if_pos rfl]
  ·have e' : ¬ (some q = some κ) := fun h => e (Option.some.inj h).symm
   rw [if_neg e']
   cases obj with
   | none => cases kill <;> cases st <;> simp [S.put, hset]
   | some o =>
    show (S.set _ q o).η κ = _
    rw [hset, if_neg e]
    cases kill <;> cases st <;> simp [hset]
theorem map_same {f : SV → SV} (h : ∀ x, f x = x) : ∀ xs : List SV, xs.map f = xs
 | [] => rfl
 | x :: xs => by rw [List.map_cons, h, map_same h xs]
theorem AO.nrm_nil (o : AO) : o.nrm [] = o := by
 cases o with
 | fm t ks xs => show AO.fm t ks (xs.map fun x => x) = _; rw [map_same fun _ => rfl]
 | rp t xs => show AO.rp t (xs.map fun x => x) = _; rw [map_same fun _ => rfl]
 | _ => rfl
theorem U.nrm_kill (P : List Nat) (d : Option Nat) (u : U) : (u.nrm P d).kill = u.kill := by
 cases P with
 | nil => rfl
 | cons i P => obtain ⟨x, obj, st, kill⟩ := u; cases obj <;> cases st <;> rfl
theorem U.nrm_x (P : List Nat) (d : Option Nat) (u : U) : (u.nrm P d).x = u.x.nrm P d := by
 cases P with
 | nil => rfl
 | cons i P => obtain ⟨x, obj, st, kill⟩ := u; cases obj <;> cases st <;> rfl
theorem U.nrm_obj' (P : List Nat) (d : Option Nat) (u : U) : (u.nrm P d).obj = u.obj.map (AO.nrm P) := by
 cases P with
 | nil => cases e : u.obj <;> simp [U.nrm, e, AO.nrm_nil]
 | cons i P => obtain ⟨x, obj, st, kill⟩ := u; cases obj <;> cases st <;> rfl
theorem U.nrm_st (P : List Nat) (d : Option Nat) (u : U) : (u.nrm P d).st = u.st.map (fun z => (z.1, z.2.nrm P)) := by
 cases P with
 | nil => cases e : u.st <;> simp [U.nrm, e, AO.nrm_nil]
 | cons i P => obtain ⟨x, obj, st, kill⟩ := u; cases obj <;> cases st <;> rfl
theorem app_nrm_less (P : List Nat) (s : S) (d : Option Nat) (u : U) : Less (s.app d u) (s.app d (u.nrm P d)) := by
 have hb : s.base (u.nrm P d) = s.base u := by unfold S.base; rw [U.nrm_kill]
 have hη : ∀ κ, (s.app d (u.nrm P d)).η κ = (s.app d u).η κ ∨ (s.app d (u.nrm P d)).η κ = ((s.app d u).η κ).nrm P := by
  intro κ
  rw [app_η, app_η, U.nrm_obj', U.nrm_st, hb]
  by_cases e : d = some κ
  ·rw [if_pos e, if_pos e]
   cases u.obj with
   | some o => exact .inr rfl
   | none =>
    cases u.st with
    | none => exact .inl rfl
    | some z =>
     obtain ⟨q, o⟩ := z
     by_cases e2 : κ = q
     ·simp [e2]
     ·simp [e2]
  ·rw [if_neg e, if_neg e]
   cases u.st with
   | none => exact .inl rfl
   | some z =>
    obtain ⟨q, o⟩ := z
    by_cases e2 : κ = q
    ·simp [e2]
    ·simp [e2]
 refine ⟨fun t => ?_, fun t κ h => ?_, fun κ => ?_, fun κ => ?_, fun κ q h => ?_⟩
 ·rw [app_ρ, app_ρ, U.nrm_x, hb]
  split
  ·exact nrm_LE _ _ _
  ·exact LE.refl _
 ·rw [app_ρ, U.nrm_x, hb] at h
  rw [app_ρ]
  split
  ·rename_i e
   rw [if_pos e] at h
   exact (nrm_keys _ _ _ h).1
  ·rename_i e
   rw [if_neg e] at h
   exact h
 ·rcases hη κ with e | e
  ·rw [e]; exact OLE.rfl' _
  ·rw [e]; exact nrmO_OLE _ _
 ·rcases hη κ with e | e
  ·rw [e]
  ·rw [e]; exact nrmO_live _ _
 ·rcases hη κ with e | e
  ·rw [e] at h; exact h
  ·rw [e] at h; exact (nrmO_keys _ _ h).1
theorem St_nrmU {P : List Nat} {d : Option Nat} {u : U} (h : St C n F ok0 w0 (s.app d u) a w) : St C n F ok0 w0 (s.app d (u.nrm P d)) a w :=
 St_ge0 h ((app_nrm_less P s d u).ge (by obtain ⟨ok, β, h⟩ := h; exact h.wf))
def isOwn (p : Nat) (x : SV) : Prop := x = .no ∨ (∃ off, x = .ptr p off) ∨ x = .slc p
structure Inv (P : List Nat) (s : S) : Prop where
 ptr : ∀ p ∈ P, isOwn p (s.ρ p)
 ρ : ∀ p ∈ P, ∀ t, t ≠ p → p ∉ (s.ρ t).keys
 η : ∀ p ∈ P, ∀ κ, p ∉ (s.η κ).keys
theorem isOwn.purge {p i : Nat} {x : SV} (h : isOwn p x) : isOwn p (x.purge i) := by
 rcases h with rfl | ⟨off, rfl⟩ | rfl
 ·exact .inl rfl
 ·show isOwn p (cond (Nat.beq p i) .no (.ptr p off))
  cases Nat.beq p i with
  | true => exact .inl rfl
  | false => exact .inr (.inl ⟨off, rfl⟩)
 ·show isOwn p (cond (Nat.beq p i) .no (.slc p))
  cases Nat.beq p i with
  | true => exact .inl rfl
  | false => exact .inr (.inr rfl)
theorem only_isOwn (p : Nat) (x : SV) : isOwn p (x.only p) := by
 cases x with
 | ptr κ off =>
  show isOwn p (cond (Nat.beq κ p) (.ptr κ off) .no)
  cases e : Nat.beq κ p with
  | true => exact .inr (.inl ⟨off, by rw [Nat.eq_of_beq_eq_true e]; rfl⟩)
  | false => exact .inl rfl
 | slc κ =>
  show isOwn p (cond (Nat.beq κ p) (.slc κ) .no)
  cases e : Nat.beq κ p with
  | true => exact .inr (.inr (by rw [Nat.eq_of_beq_eq_true e]; rfl))
  | false => exact .inl rfl
 | _ => exact .inl rfl
theorem isOwn.only {p i : Nat} {x : SV} (h : isOwn p x) : isOwn p (x.only i) := by
 rcases h with rfl | ⟨off, rfl⟩ | rfl
 ·exact .inl rfl
 ·show isOwn p (cond (Nat.beq p i) (.ptr p off) .no)
  cases Nat.beq p i with
  | true => exact .inr (.inl ⟨off, rfl⟩)
  | false => exact .inl rfl
 ·show isOwn p (cond (Nat.beq p i) (.slc p) .no)
  cases Nat.beq p i with
  | true => exact .inr (.inr rfl)
  | false => exact .inl rfl
theorem isOwn.nrm {p : Nat} : ∀ (P : List Nat) {x : SV}, isOwn p x → isOwn p (x.nrm P (some p))
 | [], x, h => h
 | i :: P, x, h => isOwn.nrm P (by
  show isOwn p (cond (Nat.beq p i) (x.only i) (x.purge i))
  cases Nat.beq p i with
  | true => exact h.only
  | false => exact h.purge)
theorem nrm_isOwn {p : Nat} : ∀ (P : List Nat) {x : SV}, p ∈ P → isOwn p (x.nrm P (some p))
 | i :: P, x, h => by
  by_cases e : p = i
  ·subst e
   refine isOwn.nrm P ?_
   show isOwn p (cond (Nat.beq p p) (x.only p) (x.purge p))
   rw [beq_ite, if_pos rfl]
   exact only_isOwn p x
  ·rcases List.mem_cons.1 h with e' | h
   ·exact absurd e' e
   ·exact nrm_isOwn P h
theorem Inv.nil (s : S) : Inv [] s := ⟨fun p hp => (by cases hp), fun p hp => (by cases hp), fun p hp => (by cases hp)⟩
theorem Inv.nrm (P : List Nat) (s : S) : Inv P (s.nrm P) := by
 cases P with
 | nil => exact Inv.nil _
 | cons i P => exact ⟨fun p hp => nrm_isOwn _ hp, fun p hp t ht hc => ht (Option.some.inj ((nrm_keys _ _ _ hc).2 hp)), fun p hp κ hc => (nrmO_keys _ _ hc).2 hp⟩
theorem Inv.base {P : List Nat} {s : S} (h : Inv P s) (u : U) : Inv P (s.base u) := by
 unfold S.base
 split
 ·rename_i κ _
  refine ⟨fun p hp => isOwn.purge (h.ptr p hp), fun p hp t ht hc => h.ρ p hp t ht (purge_keys hc).1, fun p hp t hc => ?_⟩
  change p ∈ AO.keys (cond (Nat.beq t κ) .no ((s.η t).purge κ)) at hc
  rw [beq_ite] at hc
  split at hc
  ·cases hc
  ·refine h.η p hp t ?_
   cases e : s.η t with
   | var own ty x => rw [e] at hc; exact (purge_keys (x := x) hc).1
   | no => rw [e] at hc; cases hc
   | row ty sz L => rw [e] at hc; cases hc
   | mp ty sk L => rw [e] at hc; cases hc
   | it l' pos => rw [e] at hc; cases hc
   | ms t0 sk0 L0 B0 c0 m0 => rw [e] at hc; cases hc
   | mi κ0 m0 s0 q0 l0 => rw [e] at hc; cases hc
   | fm ty ks xs => rw [e] at hc; exact (purgeL_keys (cs := xs) hc).1
   | rp ty xs => rw [e] at hc; exact (purgeL_keys (cs := xs) hc).1
 ·exact h
theorem Inv.app {P : List Nat} {s : S} {d : Option Nat} {u : U} (h : Inv P s) : Inv P (s.app d (u.nrm P d)) := by
 have hb := h.base (u.nrm P d)
 refine ⟨fun p hp => ?_, fun p hp t ht hc => ?_, fun p hp κ hc => ?_⟩
 ·rw [app_ρ, U.nrm_x]
  split
  ·rename_i e
   rw [e]
   exact nrm_isOwn P hp
  ·exact hb.ptr p hp
 ·rw [app_ρ, U.nrm_x] at hc
  split at hc
  ·rename_i e
   have := (nrm_keys _ _ _ hc).2 hp
   rw [e] at this
   exact ht (Option.some.inj this)
  ·exact hb.ρ p hp t ht hc
 ·rw [app_η, U.nrm_obj', U.nrm_st] at hc
  split at hc
  ·rename_i o' e
   split at e
   ·cases eo : u.obj with
    | none => rw [eo] at e; cases e
    | some o =>
     rw [eo] at e
     simp only [Option.map_some, Option.some.injEq] at e
     rw [← e] at hc
     exact (nrmO_keys _ _ hc).2 hp
   ·cases e
  ·split at hc
   ·rename_i q o' e
    cases es : u.st with
    | none => rw [es] at e; cases e
    | some z =>
     rw [es] at e
     simp only [Option.map_some, Option.some.injEq] at e
     split at hc
     ·have e2 : z.2.nrm P = o' := congrArg Prod.snd e
      rw [← e2] at hc
      exact (nrmO_keys _ _ hc).2 hp
     ·exact hb.η p hp κ hc
   ·exact hb.η p hp κ hc
theorem skU_keys (P : List Nat) (d : Option Nat) : (skU P d).x.keys = [] := by
 unfold skU
 cases d with
 | none => rfl
 | some p =>
  show SV.keys (cond (P.contains p) .no (.tupS [])) = []
  cases P.contains p <;> rfl
theorem skU_R (P : List Nat) (d : Option Nat) : R ok β w (skU P d).x undef := by
 have h0 : R ok β w (.tupS []) undef := by rw [R]; exact ⟨[], rfl, trivial⟩
 unfold skU
 cases d with
 | none => exact h0
 | some p =>
  show R ok β w (cond (P.contains p) .no (.tupS [])) undef
  cases P.contains p
  ·exact h0
  ·trivial
theorem Inv.appNo {P : List Nat} {s : S} {d : Option Nat} (h : Inv P s) : Inv P (s.app d (skU P d)) := by
 refine ⟨fun p hp => ?_, fun p hp t ht hc => ?_, fun p hp κ hc => ?_⟩
 ·rw [app_ρ]
  split
  ·rename_i e
   left
   rw [e]
   show cond (P.contains p) SV.no (.tupS []) = .no
   rw [List.contains_iff_mem.2 hp]
   rfl
  ·exact h.ptr p hp
 ·rw [app_ρ] at hc
  split at hc
  ·rw [skU_keys] at hc; cases hc
  ·exact h.ρ p hp t ht hc
 ·rw [app_η] at hc
  have : (if d = some κ then (none : Option AO) else none) = none := by split <;> rfl
  simp only [skU, this] at hc
  exact h.η p hp κ hc
theorem yielded_no (h : StO C n F ok0 w0 ok β s a w) {ops : Array Oper} {j g : Nat} {cs : List SV} (hg : (ops[j]?).bind (·.dst) = some g) (e : s.ρ g = .tupS cs) : yielded ops a.tmps j = none := by
 have h1 := h.ρ g
 rw [e, R] at h1
 obtain ⟨vs, h1, h2⟩ := h1
 unfold yielded
 rw [hg]
 simp only [Option.bind_some]
 rw [Array.getD_eq_getD_getElem?] at h1
 cases e2 : a.tmps[g]? with
 | none => rfl
 | some v =>
  rw [e2] at h1
  simp only [Option.getD_some] at h1
  rw [h1]
theorem Inv.putp {P : List Nat} {s : S} (h : Inv P s) {g : Nat} {x : PV} (e : s.ρ g = .p x) : Inv P (s.put g (.p x)) := by
 have : s.put g (.p x) = s := by
  cases s with
  | mk ρ η =>
   simp only [S.put, S.mk.injEq, and_true]
   funext t
   rw [beq_ite]
   split
   ·rename_i ht; subst ht; exact e.symm
   ·rfl
 rw [this]
 exact h
theorem step_sound (hC : CxOk C) {P : List Nat} (h : StO C n F ok0 w0 ok β s a w) (hd : ∀ d, o.dst = some d → d < n) (hI : Inv P s) {K' : S → Prop}
  (hvc : cond (isMut own o) (MVC C own o s fun s => K' (s.nrm P)) (VC C own o s.ev s.η fun u => K' (s.app o.dst (u.nrm P o.dst)))) (hK : ∀ s' a' w', K' s' → Inv P s' → St C n F ok0 w0 s' a' w' → K a' w') : o.wp C.P a w K Q := by
 cases e : isMut own o with
 | true =>
  rw [e] at hvc
  exact op_mut hC h hd hvc fun s' a' w' hk hst => hK _ a' w' hk (Inv.nrm P s') (St_nrm hst)
 | false =>
  rw [e] at hvc
  exact op_sound hC h hd hvc fun u a' w' hu hst => hK _ a' w' hu hI.app (St_nrmU hst)
theorem ops_sound (hC : CxOk C) {P : List Nat} {ops : Array Oper} : ∀ (l : List Oper) (Kp : S → Prop) (s : S), (∀ o ∈ l, ∀ d, o.dst = some d → d < n) → vcOps C own P ops l Kp s → ∀ (a : Act) (w : World), Inv P s → St C n F ok0 w0 s a w →
  (∀ s a w, Kp s → Inv P s → St C n F ok0 w0 s a w → Q .normal a w) → wpList C.P ops Q l a w
 | [], Kp, s, _, hvc, a, w, hI, h, hQ => hQ s a w hvc hI h
 | o :: rest, Kp, s, hds, hvc, a, w, hI, h, hQ => by
  obtain ⟨ok, β, h⟩ := h
  have hd := hds o (List.mem_cons_self ..)
  have hds' : ∀ o ∈ rest, ∀ d, o.dst = some d → d < n := fun o ho => hds o (List.mem_cons_of_mem _ ho)
  simp only [vcOps, U.force_eq, S.force_eq] at hvc
  unfold wpList
  split at hvc
  ·rename_i eg
   rw [if_pos (by simp [Region.wanted, eg])]
   exact .inl (step_sound hC h hd hI hvc fun s' a' w' hu hI' hst => ops_sound hC rest Kp _ hds' hu a' w' hI' hst hQ)
  ·rename_i j want eg
   split at hvc
   ·exact hvc.elim
   ·rename_i g hg
    split at hvc
    ·rename_i b eb
     have hy := yielded_of h hg eb
     have key : ∀ b : Bool, s.ρ g = .p (.bool b) → yielded ops a.tmps j = some b →
       (cond (b == want) (cond (isMut own o) (MVC C own o (s.put g (.p (.bool b))) fun s => vcOps C own P ops rest Kp (s.nrm P)) (VC C own o (s.put g (.p (.bool b))).ev s.η fun u => vcOps C own P ops rest Kp ((s.put g (.p (.bool b))).app o.dst (u.nrm P o.dst)))) (vcOps C own P ops rest Kp ((s.put g (.p (.bool b))).app o.dst (skU P o.dst)))) →
       (if Region.wanted o (yielded ops a.tmps) = true then o.wp C.P a w (wpList C.P ops Q rest) Q ∨ o.asks C.P a w ∧ LetsOut Q else wpList C.P ops Q rest (a.put o.dst undef) w) := by
      intro b eb hy hv
      have h2 := h.refine eb
      cases e2 : (b == want) with
      | true =>
       rw [e2] at hv
       simp only [cond_true] at hv
       have e3 : b = want := by simpa using e2
       rw [if_pos (by simp [Region.wanted, eg, hy, e3])]
       exact .inl (step_sound hC h2 hd (hI.putp eb) hv fun s' a' w' hu hI' hst => ops_sound hC rest Kp _ hds' hu a' w' hI' hst hQ)
      | false =>
       rw [e2] at hv
       simp only [cond_false] at hv
       have e3 : ¬ b = want := by simpa using e2
       rw [if_neg (by simp [Region.wanted, eg, hy, e3])]
       exact ops_sound hC rest Kp _ hds' hv _ _ (hI.putp eb).appNo (St_put (x := (skU P o.dst).x) (v := undef) h2 hd (skU_R P o.dst) (by intro κ hκ; rw [skU_keys] at hκ; cases hκ)) hQ
     cases b with
     | true => exact key true eb hy (by cases want <;> exact hvc)
     | false => exact key false eb hy (by cases want <;> exact hvc)
    ·rename_i eb
     have hy := yielded_no h hg eb
     rw [if_neg (by simp [Region.wanted, eg, hy])]
     exact ops_sound hC rest Kp _ hds' hvc _ _ hI.appNo (St_put (x := (skU P o.dst).x) (v := undef) h hd (skU_R P o.dst) (by intro κ hκ; rw [skU_keys] at hκ; cases hκ)) hQ
    ·exact hvc.elim
end
end Go.Vc
namespace Go.Vc
open Go Go.RowKit
theorem mem_keysL : ∀ {l : List SV} {κ : Nat}, κ ∈ SV.keysL l → ∃ x ∈ l, κ ∈ x.keys
 | [], κ, h => by simp [SV.keysL] at h
 | x :: l, κ, h => by
  rw [SV.keysL, List.mem_append] at h
  rcases h with h | h
  ·exact ⟨x, List.mem_cons_self .., h⟩
  ·obtain ⟨y, hy, hk⟩ := mem_keysL h
   exact ⟨y, List.mem_cons_of_mem _ hy, hk⟩
theorem Reach.mono {η : Nat → AO} {l l' : List Nat} (h : ∀ κ ∈ l, κ ∈ l') {κ : Nat} (hr : Reach η l κ) : Reach η l' κ := by
 induction hr with
 | base hk => exact .base (h _ hk)
 | step _ hk ih => exact .step ih hk
theorem Reach.congr {η η' : Nat → AO} {l : List Nat} (h : ∀ κ, Reach η l κ → η' κ = η κ) {κ : Nat} (hr : Reach η l κ) : Reach η' l κ := by
 induction hr with
 | base hk => exact .base hk
 | step h1 hk ih => exact .step ih (by rw [h _ h1]; exact hk)
theorem bnd_free {ev : Operand → SV} {d : Nat} {x : Option Operand} {k : Nat → Prop} (h : bnd ev d x k) : ∃ n, k n ∧ ∀ (ev' : Operand → SV) (k' : Nat → Prop), (∀ y, x = some y → ev' y = ev y) → k' n → bnd ev' d x k' := by
 cases x with
 | none => exact ⟨d, h, fun _ _ _ h => h⟩
 | some y =>
  simp only [bnd] at h
  split at h
  ·rename_i j n e
   refine ⟨n.toNat, h.2, fun ev' k' he hk => ?_⟩
   simp only [bnd, he y rfl, e]
   exact ⟨h.1, hk⟩
  ·exact h.elim
theorem intBin_free {op : BinOp} {j : IntKind} {a b : Int} {k : PV → Prop} (h : intBin op j a b k) : ∃ r, k r ∧ ∀ k' : PV → Prop, k' r → intBin op j a b k' := by
 unfold intBin at h
 split at h
 ·obtain ⟨r, h1, h2⟩ := h; exact ⟨_, h2, fun k' hk => ⟨r, h1, hk⟩⟩
 ·obtain ⟨r, h1, h2⟩ := h; exact ⟨_, h2, fun k' hk => ⟨r, h1, hk⟩⟩
 ·obtain ⟨r, h1, h2⟩ := h; exact ⟨_, h2, fun k' hk => ⟨r, h1, hk⟩⟩
 ·exact ⟨_, h, fun k' hk => hk⟩
 ·exact ⟨_, h, fun k' hk => hk⟩
 ·exact ⟨_, h, fun k' hk => hk⟩
 ·exact ⟨_, h, fun k' hk => hk⟩
 ·exact ⟨_, h, fun k' hk => hk⟩
 ·exact ⟨_, h, fun k' hk => hk⟩
 ·obtain ⟨h0, r, h1, h2⟩ := h; exact ⟨_, h2, fun k' hk => ⟨h0, r, h1, hk⟩⟩
 ·obtain ⟨h0, r, h1, h2⟩ := h; exact ⟨_, h2, fun k' hk => ⟨h0, r, h1, hk⟩⟩
 ·obtain ⟨h0, r, h1, h2⟩ := h; exact ⟨_, h2, fun k' hk => ⟨h0, r, h1, hk⟩⟩
 ·obtain ⟨h0, r, h1, h2⟩ := h; exact ⟨_, h2, fun k' hk => ⟨h0, r, h1, hk⟩⟩
 ·obtain ⟨r, h1, h2⟩ := h; exact ⟨_, h2, fun k' hk => ⟨r, h1, hk⟩⟩
 ·obtain ⟨r, h1, h2⟩ := h; exact ⟨_, h2, fun k' hk => ⟨r, h1, hk⟩⟩
 ·obtain ⟨r, h1, h2⟩ := h; exact ⟨_, h2, fun k' hk => ⟨r, h1, hk⟩⟩
 ·exact h.elim
theorem strBin_free {op : BinOp} {a b : List UInt8} {k : PV → Prop} (h : strBin op a b k) : ∃ r, k r ∧ ∀ k' : PV → Prop, k' r → strBin op a b k' := by
 unfold strBin at h
 split at h
 ·exact ⟨_, h.2, fun k' hk => ⟨h.1, hk⟩⟩
 ·exact ⟨_, h, fun k' hk => hk⟩
 ·exact ⟨_, h, fun k' hk => hk⟩
 ·exact ⟨_, h, fun k' hk => hk⟩
 ·rename_i op _ _ _ _
  unfold strBin2 at h
  split at h
  ·exact ⟨_, h, fun k' hk => hk⟩
  ·exact h.elim
theorem ldVC_free {ti : TI} {t t' : Nat} {y : SV} {off : Nat} {k : SV → Prop} (h : ldVC ti t t' y off k) : ∃ z, k z ∧ ∀ k' : SV → Prop, k' z → ldVC ti t t' y off k' := by
 unfold ldVC at h ⊢
 cases e : (Nat.beq t t' && Nat.beq off 0) with
 | true => rw [e] at h; exact ⟨_, h, fun k' hk => hk⟩
 | false =>
  rw [e] at h
  simp only [cond_false] at h ⊢
  split at h
  ·exact h.elim
  ·rename_i cs ec
   cases ea : ti.agg with
   | true => rw [ea] at h; exact ⟨_, h.2, fun k' hk => ⟨h.1, hk⟩⟩
   | false =>
    rw [ea] at h
    simp only [cond_false] at h ⊢
    obtain ⟨z, ez, h⟩ := optP_eq h
    exact ⟨_, h, fun k' hk => optP_mk ez hk⟩
def Fr (own : Nat → Bool) (C : Cx) (o : Oper) (ev : Operand → SV) (η : Nat → AO) (l : List Nat) (k : U → Prop) : Prop :=
 ∃ u, k u ∧ u.st = none ∧ u.kill = none ∧ (∀ o', u.obj = some o' → ∃ d, o.dst = some d ∧ η d = .no) ∧
  ∀ (ev' : Operand → SV) (η' : Nat → AO) (k' : U → Prop), (∀ x ∈ o.op.operands, ev' x = ev x) → (∀ κ, Reach η l κ → η' κ = η κ) → (∀ d, o.dst = some d → η' d = η d) → k' u → VC C own o ev' η' k'
section
variable {C : Cx} {own : Nat → Bool} {o : Oper} {ev : Operand → SV} {η : Nat → AO} {l : List Nat} {k : U → Prop}
theorem free_load {t : Nat} {x : Operand} (e : o.op = .load t x) (hl : ∀ x ∈ o.op.operands, ∀ κ ∈ (ev x).keys, κ ∈ l) (h : VC C own o ev η k) : Fr own C o ev η l k := by
 simp only [VC, e] at h
 split at h
 ·exact h.elim
 ·rename_i ti et
  split at h
  ·rename_i κ off ex
   split at h
   ·rename_i ow t' y eη
    obtain ⟨z, hz, hz'⟩ := ldVC_free h
    refine ⟨_, hz, rfl, rfl, by simp, fun ev' η' k' he hη hd hk => ?_⟩
    have h1 := he x (by simp [e, Op.operands])
    have h2 := hη κ (.base (hl x (by simp [e, Op.operands]) κ (by simp [ex, SV.keys])))
    simp only [VC, e, et, h1, ex, h2, eη]
    exact hz' _ hk
   ·exact h.elim
  ·rename_i y ex
   refine ⟨_, h.2, rfl, rfl, by simp, fun ev' η' k' he hη hd hk => ?_⟩
   have h1 := he x (by simp [e, Op.operands])
   simp only [VC, e, et, h1, ex]
   exact ⟨h.1, hk⟩
  ·rename_i y f ex
   split at h
   ·rename_i cs
    cases ea : ti.agg with
    | true =>
     rw [ea] at h
     refine ⟨_, h.2, rfl, rfl, by simp, fun ev' η' k' he hη hd hk => ?_⟩
     have h1 := he x (by simp [e, Op.operands])
     simp only [VC, e, et, h1, ex, ea]
     exact ⟨h.1, hk⟩
    | false =>
     rw [ea] at h
     simp only [cond_false] at h
     split at h
     ·rename_i z ez
      refine ⟨_, h, rfl, rfl, by simp, fun ev' η' k' he hη hd hk => ?_⟩
      have h1 := he x (by simp [e, Op.operands])
      simp only [VC, e, et, h1, ex, ea, cond_false, ez]
      exact hk
     ·exact h.elim
   ·exact h.elim
  ·rename_i κ sz i ex
   split at h
   ·rename_i t' sz' L eη
    cases es : Nat.beq sz sz' with
    | true =>
     rw [es] at h
     obtain ⟨y, h1, h2, h3, h4, h5⟩ := h
     refine ⟨_, h5, rfl, rfl, by simp, fun ev' η' k' he hη hd hk => ?_⟩
     have g1 := he x (by simp [e, Op.operands])
     have g2 := hη κ (.base (hl x (by simp [e, Op.operands]) κ (by simp [ex, SV.keys])))
     simp only [VC, e, et, g1, ex, g2, eη, es, cond_true]
     exact ⟨y, h1, h2, h3, h4, hk⟩
    | false =>
     rw [es] at h
     obtain ⟨h0, j, f, cs, h1, h2, h3, h4, h⟩ := h
     cases ea : ti.agg with
     | true =>
      rw [ea] at h
      refine ⟨_, h, rfl, rfl, by simp, fun ev' η' k' he hη hd hk => ?_⟩
      have g1 := he x (by simp [e, Op.operands])
      have g2 := hη κ (.base (hl x (by simp [e, Op.operands]) κ (by simp [ex, SV.keys])))
      simp only [VC, e, et, g1, ex, g2, eη, es, cond_false]
      exact ⟨h0, j, f, cs, h1, h2, h3, h4, by rw [ea]; exact hk⟩
     | false =>
      rw [ea] at h
      obtain ⟨z, ez, h⟩ := optP_eq h
      refine ⟨_, h, rfl, rfl, by simp, fun ev' η' k' he hη hd hk => ?_⟩
      have g1 := he x (by simp [e, Op.operands])
      have g2 := hη κ (.base (hl x (by simp [e, Op.operands]) κ (by simp [ex, SV.keys])))
      simp only [VC, e, et, g1, ex, g2, eη, es, cond_false]
      exact ⟨h0, j, f, cs, h1, h2, h3, h4, by rw [ea]; exact optP_mk ez hk⟩
   ·rename_i t' xs eη
    obtain ⟨h0, h1, h⟩ := h
    obtain ⟨z, ez, h⟩ := optP_eq h
    refine ⟨_, h, rfl, rfl, by simp, fun ev' η' k' he hη hd hk => ?_⟩
    have g1 := he x (by simp [e, Op.operands])
    have g2 := hη κ (.base (hl x (by simp [e, Op.operands]) κ (by simp [ex, SV.keys])))
    simp only [VC, e, et, g1, ex, g2, eη]
    exact ⟨h0, h1, optP_mk ez hk⟩
   ·exact h.elim
  ·exact h.elim
theorem free_binOp {op : BinOp} {t t2 : Nat} {x y : Operand} (e : o.op = .binOp op t x y t2) (h : VC C own o ev η k) : Fr own C o ev η l k := by
 simp only [VC, e] at h
 have hx : x ∈ o.op.operands := by simp [e, Op.operands]
 have hy : y ∈ o.op.operands := by simp [e, Op.operands]
 split at h
 ·rename_i j a j' b ex ey
  obtain ⟨r, hr, hr'⟩ := intBin_free h.2
  refine ⟨_, hr, rfl, rfl, by simp, fun ev' η' k' he hη hd hk => ?_⟩
  simp only [VC, e, he x hx, he y hy, ex, ey]
  exact ⟨h.1, hr' _ hk⟩
 ·rename_i a b ex ey
  obtain ⟨r, hr, hr'⟩ := strBin_free h
  refine ⟨_, hr, rfl, rfl, by simp, fun ev' η' k' he hη hd hk => ?_⟩
  simp only [VC, e, he x hx, he y hy, ex, ey]
  exact hr' _ hk
 ·rename_i a b ex ey
  split at h
  ·rename_i ti et
   refine ⟨_, h.2, rfl, rfl, by simp, fun ev' η' k' he hη hd hk => ?_⟩
   simp only [VC, e, he x hx, he y hy, ex, ey, et]
   exact ⟨h.1, hk⟩
  ·rename_i ti et
   refine ⟨_, h.2, rfl, rfl, by simp, fun ev' η' k' he hη hd hk => ?_⟩
   simp only [VC, e, he x hx, he y hy, ex, ey, et]
   exact ⟨h.1, hk⟩
  ·exact h.elim
 ·rename_i L ex ey
  split at h
  ·rename_i ti et
   refine ⟨_, h.2, rfl, rfl, by simp, fun ev' η' k' he hη hd hk => ?_⟩
   simp only [VC, e, he x hx, he y hy, ex, ey, et]
   exact ⟨h.1, hk⟩
  ·exact h.elim
 ·rename_i h1 h2 h3 h4
  have key : ∀ k' : U → Prop, ∀ ev' : Operand → SV, (∀ x ∈ o.op.operands, ev' x = ev x) → nilVC C t op (isConst y) (ev x) (ev y) k' → VC C own o ev' η k' := fun k' ev' he hn => by
   simp only [VC, e, he x hx, he y hy]
   exact hn
  unfold nilVC at h
  split at h
  ·rename_i e0
   unfold cxVC at h
   split at h
   ·rename_i e1 e2
    obtain ⟨hj, r, hr, hu⟩ := h
    refine ⟨_, hu, rfl, rfl, by simp, fun ev' η' k' he hη hd hk => ?_⟩
    simp only [VC, e, he x hx, he y hy]
    show nilVC C t op (isConst y) (ev x) (ev y) k'
    unfold nilVC cxVC
    rw [e0, e1, e2]
    exact ⟨hj, r, hr, hk⟩
   ·exact h.elim
  ·rename_i kk b e0
   split at h
   ·rename_i ti et
    obtain ⟨hl, h1', h⟩ := h
    split at h
    ·refine ⟨_, h, rfl, rfl, by simp, fun ev' η' k' he hη hd hk => ?_⟩
     simp only [VC, e, he x hx, he y hy]
     unfold nilVC
     rw [e0, et]
     exact ⟨hl, h1', hk⟩
    ·refine ⟨_, h, rfl, rfl, by simp, fun ev' η' k' he hη hd hk => ?_⟩
     simp only [VC, e, he x hx, he y hy]
     unfold nilVC
     rw [e0, et]
     exact ⟨hl, h1', hk⟩
    ·exact h.elim
   ·exact h.elim
theorem free_fieldAddr {t f : Nat} {x : Operand} (e : o.op = .fieldAddr t x f) (h : VC C own o ev η k) : Fr own C o ev η l k := by
 simp only [VC, e] at h
 have hx : x ∈ o.op.operands := by simp [e, Op.operands]
 split at h
 ·exact h.elim
 ·rename_i ti et
  split at h
  ·rename_i off n ef
   obtain ⟨hk1, h⟩ := h
   split at h
   ·rename_i κ o' ex
    refine ⟨_, h, rfl, rfl, by simp, fun ev' η' k' he hη hd hk => ?_⟩
    simp only [VC, e, he x hx, ex, et, ef]
    exact ⟨hk1, hk⟩
   ·rename_i y ex
    refine ⟨_, h, rfl, rfl, by simp, fun ev' η' k' he hη hd hk => ?_⟩
    simp only [VC, e, he x hx, ex, et, ef]
    exact ⟨hk1, hk⟩
   ·rename_i y o' ex
    refine ⟨_, h, rfl, rfl, by simp, fun ev' η' k' he hη hd hk => ?_⟩
    simp only [VC, e, he x hx, ex, et, ef]
    exact ⟨hk1, hk⟩
   ·rename_i κ sz i ex
    refine ⟨_, h, rfl, rfl, by simp, fun ev' η' k' he hη hd hk => ?_⟩
    simp only [VC, e, he x hx, ex, et, ef]
    exact ⟨hk1, hk⟩
   ·exact h.elim
  ·exact h.elim
theorem free_field {t f : Nat} {x : Operand} (e : o.op = .field t x f) (h : VC C own o ev η k) : Fr own C o ev η l k := by
 simp only [VC, e] at h
 have hx : x ∈ o.op.operands := by simp [e, Op.operands]
 split at h
 ·exact h.elim
 ·rename_i ti et
  split at h
  ·rename_i off ef
   obtain ⟨hk1, h⟩ := h
   split at h
   ·rename_i cs ex
    split at h
    ·rename_i z ez
     refine ⟨_, h, rfl, rfl, by simp, fun ev' η' k' he hη hd hk => ?_⟩
     simp only [VC, e, he x hx, ex, et, ef, ez]
     exact ⟨hk1, hk⟩
    ·exact h.elim
   ·rename_i cs ex
    split at h
    ·rename_i z ez
     refine ⟨_, h, rfl, rfl, by simp, fun ev' η' k' he hη hd hk => ?_⟩
     simp only [VC, e, he x hx, ex, et, ef, ez]
     exact ⟨hk1, hk⟩
    ·exact h.elim
   ·exact h.elim
  ·rename_i off m hne ef
   obtain ⟨hk1, h2m, h⟩ := h
   obtain ⟨z, ez, h⟩ := optP_eq h
   refine ⟨_, h, rfl, rfl, by simp, fun ev' η' k' he hη hd hk => ?_⟩
   simp only [VC, e, he x hx, et, ef]
   exact ⟨hk1, h2m, optP_mk ez hk⟩
  ·exact h.elim
theorem free_indexAddr {t : Nat} {x ix : Operand} (e : o.op = .indexAddr t x ix) (hl : ∀ x ∈ o.op.operands, ∀ κ ∈ (ev x).keys, κ ∈ l) (h : VC C own o ev η k) : Fr own C o ev η l k := by
 simp only [VC, e] at h
 have hx : x ∈ o.op.operands := by simp [e, Op.operands]
 have hi : ix ∈ o.op.operands := by simp [e, Op.operands]
 split at h
 ·rename_i ti j n et ei
  split at h
  ·exact h.elim
  ·rename_i te ete
   split at h
   ·rename_i L ex
    obtain ⟨h0, y, hy, h1, h2, h3⟩ := h
    refine ⟨_, h3, rfl, rfl, by simp, fun ev' η' k' he hη hd hk => ?_⟩
    simp only [VC, e, he x hx, he ix hi, ex, ei, et, ete]
    exact ⟨h0, y, hy, h1, h2, hk⟩
   ·rename_i g ex
    split at h
    ·rename_i L eL
     obtain ⟨h0, y, hy, h1, h2, h3, h4⟩ := h
     refine ⟨_, h4, rfl, rfl, by simp, fun ev' η' k' he hη hd hk => ?_⟩
     simp only [VC, e, he x hx, he ix hi, ex, ei, et, ete, eL]
     exact ⟨h0, y, hy, h1, h2, h3, hk⟩
    ·exact h.elim
   ·rename_i κ ex
    split at h
    ·rename_i t' sz L eη
     obtain ⟨h0, h1, h2, h3, h4⟩ := h
     refine ⟨_, h4, rfl, rfl, by simp, fun ev' η' k' he hη hd hk => ?_⟩
     have h5 := hη κ (.base (hl x hx κ (by simp [ex, SV.keys])))
     simp only [VC, e, he x hx, he ix hi, ex, ei, et, ete, h5, eη]
     exact ⟨h0, h1, h2, h3, hk⟩
    ·rename_i t' xs eη
     obtain ⟨h0, h1, h2, h3, h4⟩ := h
     refine ⟨_, h4, rfl, rfl, by simp, fun ev' η' k' he hη hd hk => ?_⟩
     have h5 := hη κ (.base (hl x hx κ (by simp [ex, SV.keys])))
     simp only [VC, e, he x hx, he ix hi, ex, ei, et, ete, h5, eη]
     exact ⟨h0, h1, h2, h3, hk⟩
    ·exact h.elim
   ·rename_i κ off ex
    obtain ⟨h0, h1, h2, h3⟩ := h
    refine ⟨_, h3, rfl, rfl, by simp, fun ev' η' k' he hη hd hk => ?_⟩
    simp only [VC, e, he x hx, he ix hi, ex, ei, et, ete]
    exact ⟨h0, h1, h2, hk⟩
   ·exact h.elim
 ·exact h.elim
theorem free_slice {t : Nat} {x : Operand} {lo hi mx : Option Operand} (e : o.op = .slice t x lo hi mx) (ht : takeB own o.dst = false) (h : VC C own o ev η k) : Fr own C o ev η l k := by
 simp only [VC, e, ht, cond_false] at h
 have hx : x ∈ o.op.operands := by simp [e, Op.operands]
 have hlo : ∀ y, lo = some y → y ∈ o.op.operands := fun y hy => by simp [e, Op.operands, hy]
 have hhi : ∀ y, hi = some y → y ∈ o.op.operands := fun y hy => by simp [e, Op.operands, hy]
 have hmx : ∀ y, mx = some y → y ∈ o.op.operands := fun y hy => by simp [e, Op.operands, hy]
 split at h
 ·rename_i ti L et ex
  obtain ⟨h1, h2, h3, h4⟩ := h
  obtain ⟨n1, h4, g1⟩ := bnd_free h4
  obtain ⟨n2, h4, g2⟩ := bnd_free h4
  obtain ⟨n3, h4, g3⟩ := bnd_free h4
  obtain ⟨q1, q2, q3, q4⟩ := h4
  refine ⟨_, q4, rfl, rfl, by simp, fun ev' η' k' he hη hd hk => ?_⟩
  simp only [VC, e, ht, cond_false, he x hx, ex, et]
  exact ⟨h1, h2, h3, g1 _ _ (fun y hy => he y (hlo y hy)) (g2 _ _ (fun y hy => he y (hhi y hy)) (g3 _ _ (fun y hy => he y (hmx y hy)) ⟨q1, q2, q3, hk⟩))⟩
 ·rename_i ti L et ex
  obtain ⟨h1, h2, h4⟩ := h
  obtain ⟨n1, h4, g1⟩ := bnd_free h4
  obtain ⟨n2, h4, g2⟩ := bnd_free h4
  obtain ⟨q1, q2, q4⟩ := h4
  refine ⟨_, q4, rfl, rfl, by simp, fun ev' η' k' he hη hd hk => ?_⟩
  simp only [VC, e, ht, cond_false, he x hx, ex, et]
  exact ⟨h1, h2, g1 _ _ (fun y hy => he y (hlo y hy)) (g2 _ _ (fun y hy => he y (hhi y hy)) ⟨q1, q2, hk⟩)⟩
 ·rename_i ti cs et ex
  obtain ⟨h1, h2, h3, h4, h5, h6⟩ := h
  refine ⟨_, h6, rfl, rfl, by simp, fun ev' η' k' he hη hd hk => ?_⟩
  simp only [VC, e, ht, cond_false, he x hx, ex, et]
  exact ⟨h1, h2, h3, h4, h5, hk⟩
 ·exact h.elim
theorem partsIn_congr {ev ev' : Operand → SV} : ∀ (ps : List (Nat × Operand)) (n : Nat), (∀ p ∈ ps, ev' p.2 = ev p.2) → partsIn ev' n ps = partsIn ev n ps
 | [], n, h => rfl
 | (i, x) :: r, n, h => by
  simp only [partsIn, partsIn_congr r (n + 1) fun p hp => h p (List.mem_cons_of_mem _ hp)]
  rw [show ev' x = ev x from h (i, x) (List.mem_cons_self ..)]
theorem partsS_congr {ev ev' : Operand → SV} : ∀ (ps : List (Nat × Operand)) (n : Nat), (∀ p ∈ ps, ev' p.2 = ev p.2) → partsS ev' n ps = partsS ev n ps
 | [], n, h => rfl
 | (i, x) :: r, n, h => by
  simp only [partsS, partsS_congr r (n + 1) fun p hp => h p (List.mem_cons_of_mem _ hp)]
  rw [show ev' x = ev x from h (i, x) (List.mem_cons_self ..)]
theorem CallVC_congr {η η' : Nat → AO} {f : FuncId} {args : List SV} {r : Res} (hk : ∀ κ ∈ SV.keysL args, κ ∈ l) (hη : ∀ κ, Reach η l κ → η' κ = η κ) (h : CallVC C η f args (args.map (view η)) r) : CallVC C η' f args (args.map (view η')) r := by
 obtain ⟨ηc, args', hle, hpc, hηc, hlive, hkeys, hscal⟩ := h
 have hv : args.map (view η') = args.map (view η) := by
  refine List.map_congr_left fun x hx => ?_
  cases x with
  | slc κ =>
   have : η' κ = η κ := hη κ (.base (hk κ (keysL_mem hx (by simp [SV.keys]))))
   simp only [view, this]
  | _ => rfl
 refine ⟨ηc, args', by rw [hv]; exact hle, hpc, fun κ => ?_, hlive, hkeys, hscal⟩
 rcases hηc κ with e | ⟨h1, h2⟩
 ·exact .inl e
 ·have h3 : ∀ κ, Reach η (SV.keysL args) κ → η' κ = η κ := fun κ hr => hη κ (hr.mono hk)
  exact .inr ⟨h1.congr h3, by rw [h3 κ h1]; exact h2⟩
theorem asFn_keys {x : SV} {f : FuncId} {caps : List SV} (h : asFn x = .fn f caps) {κ : Nat} (hk : κ ∈ SV.keysL caps) : κ ∈ x.keys := by
 unfold asFn at h
 split at h
 ·split at h
  ·rename_i f' a b
   cases ea : (Nat.beq a.size 0 && Nat.beq b.size 0) with
   | false => rw [ea] at h; cases h
   | true => rw [ea] at h; cases h; cases hk
  ·cases h
 ·subst h
  simpa [SV.keys] using hk
theorem free_call (hev : ∀ v, ev (.const v) = cv v) {c : Call} (e : o.op = .call c) (hf : freeO0 o = true) (hl : ∀ x ∈ o.op.operands, ∀ κ ∈ (ev x).keys, κ ∈ l) (h : VC C own o ev η k) : Fr own C o ev η l k := by
 obtain ⟨callee, args, argTypes⟩ := c
 have hargs : ∀ x ∈ args, x ∈ o.op.operands := fun x hx => by simp [e, Op.operands, Call.operands, hx]
 cases callee with
 | value f =>
  have hfo : f ∈ o.op.operands := by simp [e, Op.operands, Call.operands]
  simp only [VC, e, SV.forceL_eq] at h
  split at h
  ·exact h.elim
  ·rename_i d ed
   split at h
   ·rename_i f' caps ef
    obtain ⟨r, hc, h⟩ := h
    split at h
    ·rename_i eη
     have hsame : ∀ (ev' : Operand → SV), (∀ x ∈ o.op.operands, ev' x = ev x) → args.toList.map ev' = args.toList.map ev := fun ev' he => List.map_congr_left fun x hx => he x (hargs x (by simpa using hx))
     have hkk : ∀ κ ∈ SV.keysL (args.toList.map ev ++ caps), κ ∈ l := by
      intro κ hκ
      rw [keysL_append, List.mem_append] at hκ
      rcases hκ with hκ | hκ
      ·obtain ⟨y, hy, hk⟩ := mem_keysL hκ
       obtain ⟨x, hx, rfl⟩ := List.mem_map.1 hy
       exact hl x (hargs x (by simpa using hx)) κ hk
      ·exact hl f hfo κ (asFn_keys ef hκ)
     refine ⟨_, h, ?_, ?_, ?_, fun ev' η' k' he hη hd hk => ?_⟩
     ·cases r <;> simp [Res.u]
      cases own d <;> simp
     ·cases r <;> simp [Res.u]
      cases own d <;> simp
     ·intro o' _
      exact ⟨d, ed, eη⟩
     ·simp only [VC, e, ed, he f hfo, ef, hsame ev' he, SV.forceL_eq]
      refine ⟨r, CallVC_congr hkk hη hc, ?_⟩
      rw [hd d ed, eη]
      exact hk
    ·exact h.elim
   ·exact h.elim
 | invoke r m => simp only [VC, e] at h
 | builtin b =>
  cases b with
  | len =>
   simp only [VC, e] at h
   split at h
   ·rename_i x ti ea et
    have hx : x ∈ o.op.operands := hargs x (by have : x ∈ args.toList := (by rw [ea]; simp); simpa using this)
    split at h
    ·rename_i L ex
     refine ⟨_, h.2, rfl, rfl, by simp, fun ev' η' k' he hη hd hk => ?_⟩
     simp only [VC, e, ea, et, he x hx, ex]
     exact ⟨h.1, hk⟩
    ·rename_i ex
     refine ⟨_, h.2, rfl, rfl, by simp, fun ev' η' k' he hη hd hk => ?_⟩
     simp only [VC, e, ea, et, he x hx, ex]
     exact ⟨h.1, hk⟩
    ·rename_i L ex
     refine ⟨_, h.2, rfl, rfl, by simp, fun ev' η' k' he hη hd hk => ?_⟩
     simp only [VC, e, ea, et, he x hx, ex]
     exact ⟨h.1, hk⟩
    ·rename_i κ ex
     split at h
     ·rename_i t' sz L eη
      refine ⟨_, h.2, rfl, rfl, by simp, fun ev' η' k' he hη hd hk => ?_⟩
      have h5 := hη κ (.base (hl x hx κ (by simp [ex, SV.keys])))
      simp only [VC, e, ea, et, he x hx, ex, h5, eη]
      exact ⟨h.1, hk⟩
     ·rename_i t' xs eη
      refine ⟨_, h.2, rfl, rfl, by simp, fun ev' η' k' he hη hd hk => ?_⟩
      have h5 := hη κ (.base (hl x hx κ (by simp [ex, SV.keys])))
      simp only [VC, e, ea, et, he x hx, ex, h5, eη]
      exact ⟨h.1, hk⟩
     ·rename_i t' sk L eη
      refine ⟨_, h.2, rfl, rfl, by simp, fun ev' η' k' he hη hd hk => ?_⟩
      have h5 := hη κ (.base (hl x hx κ (by simp [ex, SV.keys])))
      simp only [VC, e, ea, et, he x hx, ex, h5, eη]
      exact ⟨h.1, hk⟩
     ·exact h.elim
    ·exact h.elim
   ·exact h.elim
  | max =>
   simp only [VC, e] at h
   split at h
   ·rename_i x y ea
    have hx : x ∈ o.op.operands := hargs x (by have : x ∈ args.toList := (by rw [ea]; simp); simpa using this)
    have hy : y ∈ o.op.operands := hargs y (by have : y ∈ args.toList := (by rw [ea]; simp); simpa using this)
    split at h
    ·rename_i a b ex ey
     refine ⟨_, h, rfl, rfl, by simp, fun ev' η' k' he hη hd hk => ?_⟩
     simp only [VC, e, ea, he x hx, he y hy, ex, ey]
     exact hk
    ·exact h.elim
   ·rename_i x y z ea
    have hx : x ∈ o.op.operands := hargs x (by have : x ∈ args.toList := (by rw [ea]; simp); simpa using this)
    have hy : y ∈ o.op.operands := hargs y (by have : y ∈ args.toList := (by rw [ea]; simp); simpa using this)
    have hz : z ∈ o.op.operands := hargs z (by have : z ∈ args.toList := (by rw [ea]; simp); simpa using this)
    split at h
    ·rename_i a b c ex ey ez
     refine ⟨_, h, rfl, rfl, by simp, fun ev' η' k' he hη hd hk => ?_⟩
     simp only [VC, e, ea, he x hx, he y hy, he z hz, ex, ey, ez]
     exact hk
    ·exact h.elim
   ·exact h.elim
  | min =>
   simp only [VC, e] at h
   split at h
   ·rename_i x y ea
    have hx : x ∈ o.op.operands := hargs x (by have : x ∈ args.toList := (by rw [ea]; simp); simpa using this)
    have hy : y ∈ o.op.operands := hargs y (by have : y ∈ args.toList := (by rw [ea]; simp); simpa using this)
    split at h
    ·rename_i a b ex ey
     refine ⟨_, h, rfl, rfl, by simp, fun ev' η' k' he hη hd hk => ?_⟩
     simp only [VC, e, ea, he x hx, he y hy, ex, ey]
     exact hk
    ·exact h.elim
   ·exact h.elim
  | append =>
   have hn : ∃ x y, args.toList = [x, y] ∧ isNilC x = true := by
    simp only [freeO0, e] at hf
    split at hf
    ·rename_i x y ea
     exact ⟨x, y, ea, hf⟩
    ·cases hf
   obtain ⟨x, y, ea, hx⟩ := hn
   have hx : ∀ ev' : Operand → SV, (∀ x ∈ o.op.operands, ev' x = ev x) → ev' x = .p .nilS := fun ev' he => by
    rw [he x (hargs x (by have : x ∈ args.toList := (by rw [ea]; simp); simpa using this))]
    unfold isNilC at hx
    split at hx
    ·rw [hev]; rfl
    ·cases hx
   have hy : y ∈ o.op.operands := hargs y (by have : y ∈ args.toList := (by rw [ea]; simp); simpa using this)
   have hx0 := hx ev fun _ _ => rfl
   simp only [VC, e, ea] at h
   split at h
   ·rename_i d x2 y2 t t' ed ea2 et
    simp only [List.cons.injEq, and_true] at ea2
    obtain ⟨rfl, rfl⟩ := ea2
    cases htt : Nat.beq t t' with
    | false => rw [htt] at h; exact h.elim
    | true =>
     rw [htt] at h
     simp only [cond_true] at h
     split at h
     ·rename_i ti eti
      cases e4 : own (d + 400000) with
      | true =>
       rw [e4] at h
       simp only [cond_true] at h
       cases e6 : own (d + 600000) with
       | true =>
        rw [e6, cond_true, hx0] at h
        unfold rrVC at h
        split at h
        ·rename_i te q ete ey
         split at h
         ·rename_i e' sz' M eηq
          obtain ⟨h1, h2, h3, h4, h⟩ := h
          simp only at h
          split at h
          ·rename_i eηd
           obtain ⟨h5, h⟩ := h
           refine ⟨_, h, rfl, rfl, fun _ _ => ⟨d, ed, eηd⟩, fun ev' η' k' he hη hd hk => ?_⟩
           have g2 := hη q (.base (hl y hy q (by simp [ey, SV.keys])))
           simp only [VC, e, ed, ea, et, htt, cond_true, eti, e4, e6, hx ev' he, he y hy, ey]
           unfold rrVC
           simp only [ete, g2, eηq, hd d ed, eηd]
           exact ⟨h1, h2, h3, h4, h5, hk⟩
          ·exact h.elim
         ·exact h.elim
        ·exact h.elim
       | false =>
       rw [e6] at h
       simp only [cond_false] at h
       split at h
       ·rename_i te kl xs q ete ex ey eηd
        rw [hx0] at ex
        simp only [rpOf, Option.some.injEq, Prod.mk.injEq] at ex
        obtain ⟨rfl, rfl⟩ := ex
        split at h
        ·rename_i e' ys eηq
         obtain ⟨h1, h2, h3, h4, h5, h6, h7, h⟩ := h
         rw [SV.forceL_eq] at h
         refine ⟨_, h, rfl, rfl, fun _ _ => ⟨d, ed, eηd⟩, fun ev' η' k' he hη hd hk => ?_⟩
         have g2 := hη q (.base (hl y hy q (by simp [ey, SV.keys])))
         simp only [VC, e, ed, ea, et, htt, cond_true, cond_false, eti, ete, e4, e6, hx ev' he, rpOf, he y hy, ey, hd d ed, eηd, g2, eηq, SV.forceL_eq]
         exact ⟨h1, h2, h3, h4, h5, h6, h7, hk⟩
        ·exact h.elim
       ·exact h.elim
      | false =>
      rw [e4] at h
      simp only [cond_false] at h
      split at h
      ·rename_i te M ete eM
       obtain ⟨h1, h2, h3, h4, h⟩ := h
       rw [hx0] at h
       simp only at h
       split at h
       ·rename_i eη
        obtain ⟨h5, h⟩ := h
        cases eo : own d with
        | true =>
         rw [eo] at h
         refine ⟨_, h, rfl, rfl, fun _ _ => ⟨d, ed, eη⟩, fun ev' η' k' he hη hd hk => ?_⟩
         simp only [VC, e, ed, ea, et, htt, cond_true, cond_false, e4, eti, ete, he y hy, eM, hx ev' he, hd d ed, eη, eo]
         exact ⟨h1, h2, h3, h4, h5, hk⟩
        | false =>
         rw [eo] at h
         refine ⟨_, h, rfl, rfl, by simp, fun ev' η' k' he hη hd hk => ?_⟩
         simp only [VC, e, ed, ea, et, htt, cond_true, e4, eti, ete, he y hy, eM, hx ev' he, hd d ed, eη, eo, cond_false]
         exact ⟨h1, h2, h3, h4, h5, hk⟩
       ·exact h.elim
      ·exact h.elim
     ·exact h.elim
   ·exact h.elim
  | _ => simp [freeO0, e] at hf
theorem pairs_congr {ev ev' : Operand → SV} {ps : List (Nat × Operand)} (h : ∀ p ∈ ps, ev' p.2 = ev p.2) : (ps.map fun x => (x.1, ev' x.2)) = ps.map fun x => (x.1, ev x.2) :=
 List.map_congr_left fun p hp => by rw [h p hp]
theorem mv_free {t : Nat} {x : SV} (h : mvVC C own o.dst t η x k)
  (h' : ∀ (ev' : Operand → SV) (η' : Nat → AO) (k' : U → Prop), (∀ x ∈ o.op.operands, ev' x = ev x) → (∀ κ, Reach η l κ → η' κ = η κ) → (∀ d, o.dst = some d → η' d = η d) → mvVC C own o.dst t η' x k' → VC C own o ev' η' k') : Fr own C o ev η l k := by
 unfold mvVC at h
 cases e : ownNil own o.dst x with
 | false =>
  rw [e] at h
  refine ⟨_, h, rfl, rfl, by simp, fun ev' η' k' he hη hd hk => h' ev' η' k' he hη hd ?_⟩
  unfold mvVC
  rw [e]
  exact hk
 | true =>
  rw [e] at h
  simp only [cond_true] at h
  split at h
  ·rename_i d ti ed et
   split at h
   ·rename_i te eη ete
    refine ⟨_, h.2, rfl, rfl, fun _ _ => ⟨d, ed, eη⟩, fun ev' η' k' he hη hd hk => h' ev' η' k' he hη hd ?_⟩
    unfold mvVC
    rw [e]
    simp only [cond_true, ed, et, hd d ed, eη, ete]
    exact ⟨h.1, hk⟩
   ·exact h.elim
  ·exact h.elim
theorem VC_free (hev : ∀ v, ev (.const v) = cv v) (hf' : freeO1 own o = true) (hl : ∀ x ∈ o.op.operands, ∀ κ ∈ (ev x).keys, κ ∈ l) (h : VC C own o ev η k) : Fr own C o ev η l k := by
 have hf : freeO0 o = true := by rw [freeO1, Bool.and_eq_true] at hf'; exact hf'.2
 cases e : o.op with
 | move x =>
  simp only [VC, e] at h
  refine mv_free h fun ev' η' k' he hη hd hk => ?_
  simp only [VC, e, he x (by simp [e, Op.operands])]
  exact hk
 | assign x =>
  simp only [VC, e] at h
  refine mv_free h fun ev' η' k' he hη hd hk => ?_
  simp only [VC, e, he x (by simp [e, Op.operands])]
  exact hk
 | convert t t' x =>
  simp only [VC, e] at h
  split at h
  ·rename_i ti ti' et et'
   split at h
   ·rename_i j m ex
    split at h
    ·rename_i j' z0 ez
     obtain ⟨h1, r, h2, h3⟩ := h
     refine ⟨_, h3, rfl, rfl, by simp, fun ev' η' k' he hη hd hk => ?_⟩
     simp only [VC, e, et, et', he x (by simp [e, Op.operands]), ex, ez]
     exact ⟨h1, r, h2, hk⟩
    ·rename_i z0 ez
     obtain ⟨h1, r, h2, h3⟩ := h
     refine ⟨_, h3, rfl, rfl, by simp, fun ev' η' k' he hη hd hk => ?_⟩
     simp only [VC, e, et, et', he x (by simp [e, Op.operands]), ex, ez]
     exact ⟨h1, r, h2, hk⟩
    ·exact h.elim
   ·rename_i L ex
    obtain ⟨h1, h2, h3, q, h4, h5⟩ := h
    refine ⟨_, h5, rfl, rfl, by simp, fun ev' η' k' he hη hd hk => ?_⟩
    simp only [VC, e, et, et', he x (by simp [e, Op.operands]), ex]
    exact ⟨h1, h2, h3, q, h4, hk⟩
   ·split at h
    ·obtain ⟨rfl, _⟩ := h
     simp [freeO0, e] at hf
    ·exact h.elim
   ·exact h.elim
  ·exact h.elim
 | pick c x y =>
  simp only [VC, e] at h
  have hc : c ∈ o.op.operands := by simp [e, Op.operands]
  have hx : x ∈ o.op.operands := by simp [e, Op.operands]
  have hy : y ∈ o.op.operands := by simp [e, Op.operands]
  split at h
  ·rename_i t ec
   cases t with
   | true =>
    refine ⟨_, h, rfl, rfl, by simp, fun ev' η' k' he hη hd hk => ?_⟩
    simp only [VC, e, he c hc, he x hx, ec]
    exact hk
   | false =>
    refine ⟨_, h, rfl, rfl, by simp, fun ev' η' k' he hη hd hk => ?_⟩
    simp only [VC, e, he c hc, he y hy, ec]
    exact hk
  ·exact h.elim
 | alloc t =>
  simp only [VC, e] at h
  split at h
  ·rename_i d ti ed et
   split at h
   ·rename_i eη
    refine ⟨_, h, rfl, rfl, fun _ _ => ⟨d, ed, eη⟩, fun ev' η' k' he hη hd hk => ?_⟩
    simp only [VC, e, ed, et, hd d ed, eη]
    exact hk
   ·exact h.elim
  ·exact h.elim
 | load t x => exact free_load e hl h
 | nilCheck x =>
  simp only [VC, e] at h
  split at h
  ·rename_i κ off ex
   refine ⟨_, h, rfl, rfl, by simp, fun ev' η' k' he hη hd hk => ?_⟩
   simp only [VC, e, he x (by simp [e, Op.operands]), ex]
   exact hk
  ·rename_i κ sz i ex
   refine ⟨_, h, rfl, rfl, by simp, fun ev' η' k' he hη hd hk => ?_⟩
   simp only [VC, e, he x (by simp [e, Op.operands]), ex]
   exact hk
  ·exact h.elim
 | binOp op t x y t' => exact free_binOp e h
 | unOp op t x =>
  simp only [VC, e] at h
  split at h
  ·rename_i b ex
   refine ⟨_, h, rfl, rfl, by simp, fun ev' η' k' he hη hd hk => ?_⟩
   simp only [VC, e, he x (by simp [e, Op.operands]), ex]
   exact hk
  ·rename_i j b ex
   obtain ⟨r, h1, h2⟩ := h
   refine ⟨_, h2, rfl, rfl, by simp, fun ev' η' k' he hη hd hk => ?_⟩
   simp only [VC, e, he x (by simp [e, Op.operands]), ex]
   exact ⟨r, h1, hk⟩
  ·rename_i j b ex
   obtain ⟨r, hr, hr'⟩ := intBin_free h
   refine ⟨_, hr, rfl, rfl, by simp, fun ev' η' k' he hη hd hk => ?_⟩
   simp only [VC, e, he x (by simp [e, Op.operands]), ex]
   exact hr' _ hk
  ·exact h.elim
 | makeFunc f fi ca =>
  simp only [VC, e] at h
  split at h
  ·rename_i f' ef
   refine ⟨_, h, rfl, rfl, by simp, fun ev' η' k' he hη hd hk => ?_⟩
   have : ca.toList.map ev' = ca.toList.map ev := List.map_congr_left fun x hx => he x (by simp [e, Op.operands]; exact .inr (by simpa using hx))
   simp only [VC, e, ef, this]
   exact hk
  ·exact h.elim
 | fieldAddr t x f => exact free_fieldAddr e h
 | field t x f => exact free_field e h
 | indexAddr t x ix => exact free_indexAddr e hl h
 | index t x ix =>
  simp only [VC, e] at h
  split at h
  ·rename_i ti lx j n et ex ei
   obtain ⟨h1, h2, c, h3, h4⟩ := h
   refine ⟨_, h4, rfl, rfl, by simp, fun ev' η' k' he hη hd hk => ?_⟩
   simp only [VC, e, et, he x (by simp [e, Op.operands]), he ix (by simp [e, Op.operands]), ex, ei]
   exact ⟨h1, h2, c, h3, hk⟩
  ·rename_i ti cs j n et ex ei
   obtain ⟨h1, h2, h3, h4, h5⟩ := h
   obtain ⟨y, ey, h5⟩ := optP_eq h5
   refine ⟨_, h5, rfl, rfl, by simp, fun ev' η' k' he hη hd hk => ?_⟩
   simp only [VC, e, et, he x (by simp [e, Op.operands]), he ix (by simp [e, Op.operands]), ex, ei]
   exact ⟨h1, h2, h3, h4, optP_mk ey hk⟩
  ·exact h.elim
 | slice t x lo hi mx => exact free_slice e (by rw [freeO1, Bool.and_eq_true] at hf'; have := hf'.1; simpa [isTake, e] using this) h
 | extract x i =>
  simp only [VC, e] at h
  split at h
  ·rename_i cs ex
   split at h
   ·rename_i y ey
    refine ⟨_, h, rfl, rfl, by simp, fun ev' η' k' he hη hd hk => ?_⟩
    simp only [VC, e, he x (by simp [e, Op.operands]), ex, ey]
    exact hk
   ·exact h.elim
  ·exact h.elim
 | build t parts =>
  simp only [VC, e] at h
  have hp : ∀ p ∈ parts.toList, p.2 ∈ o.op.operands := fun p hp => by
   simp only [e, Op.operands, List.mem_toArray, List.mem_map]
   exact ⟨p, hp, rfl⟩
  split at h
  ·exact h.elim
  ·rename_i ti et
   cases hk3 : Nat.beq ti.k 3 with
   | true =>
    rw [hk3] at h
    simp only [cond_true] at h
    obtain ⟨h1, h2, h⟩ := h
    obtain ⟨cs, ecs, h⟩ := optP_eq h
    obtain ⟨cs', ef, h⟩ := optP_eq h
    refine ⟨_, h, rfl, rfl, by simp, fun ev' η' k' he hη hd hk => ?_⟩
    simp only [VC, e, et, pairs_congr (fun p hm => he p.2 (hp p hm)), hk3, cond_true]
    exact ⟨h1, h2, optP_mk ecs (optP_mk ef hk)⟩
   | false =>
   rw [hk3] at h
   simp only [cond_false] at h
   obtain ⟨h1, h2, h⟩ := h
   split at h
   ·rename_i cs ecs
    split at h
    ·rename_i cs' ef
     refine ⟨_, h, rfl, rfl, by simp, fun ev' η' k' he hη hd hk => ?_⟩
     simp only [VC, e, et, pairs_congr (fun p hm => he p.2 (hp p hm)), ecs, ef, hk3, cond_false]
     exact ⟨h1, h2, hk⟩
    ·exact h.elim
   ·exact h.elim
 | buildSlice t m parts =>
  simp only [VC, e, PV.forceL_eq, SV.forceL_eq] at h
  have hp : ∀ p ∈ parts.toList, p.2 ∈ o.op.operands := fun p hp => by
   simp only [e, Op.operands, List.mem_toArray, List.mem_map]
   exact ⟨p, hp, rfl⟩
  split at h
  ·rename_i d ti ed et
   cases e4 : own (d + 400000) with
   | true =>
    rw [e4] at h
    simp only [cond_true] at h
    split at h
    ·rename_i te xs ete eL eη
     obtain ⟨h1, h2, h3, h4, h⟩ := h
     refine ⟨_, h, rfl, rfl, fun _ _ => ⟨d, ed, eη⟩, fun ev' η' k' he hη hd hk => ?_⟩
     simp only [VC, e, SV.forceL_eq, ed, et, ete, e4, cond_true, partsS_congr _ _ (fun p hm => he p.2 (hp p hm)), eL, hd d ed, eη]
     exact ⟨h1, h2, h3, h4, hk⟩
    ·exact h.elim
   | false =>
   rw [e4] at h
   simp only [cond_false] at h
   split at h
   ·rename_i te L ete eL
    obtain ⟨h1, h2, h3, h4, h5, h⟩ := h
    cases eo : own d with
    | true =>
     rw [eo] at h
     simp only [cond_true] at h
     split at h
     ·rename_i eη
      refine ⟨_, h, rfl, rfl, fun _ _ => ⟨d, ed, eη⟩, fun ev' η' k' he hη hd hk => ?_⟩
      simp only [VC, e, PV.forceL_eq, ed, et, ete, e4, cond_false, partsIn_congr _ _ (fun p hm => he p.2 (hp p hm)), eL, eo, hd d ed, eη, cond_true]
      exact ⟨h1, h2, h3, h4, h5, hk⟩
     ·exact h.elim
    | false =>
     rw [eo] at h
     refine ⟨_, h, rfl, rfl, by simp, fun ev' η' k' he hη hd hk => ?_⟩
     simp only [VC, e, PV.forceL_eq, ed, et, ete, e4, partsIn_congr _ _ (fun p hm => he p.2 (hp p hm)), eL, eo, cond_false]
     exact ⟨h1, h2, h3, h4, h5, hk⟩
   ·exact h.elim
  ·exact h.elim
 | makeSlice t n m =>
  simp only [VC, e] at h
  split at h
  ·rename_i d ti ed et
   split at h
   ·rename_i j1 p j2 q te en em ete eη
    obtain ⟨h1, h2, h3, h4, h5, h6, h7, h⟩ := h
    refine ⟨_, h, rfl, rfl, fun _ _ => ⟨d, ed, eη⟩, fun ev' η' k' he hη hd hk => ?_⟩
    simp only [VC, e, ed, et, ete, he n (by simp [e, Op.operands]), he m (by simp [e, Op.operands]), en, em, hd d ed, eη]
    exact ⟨h1, h2, h3, h4, h5, h6, h7, hk⟩
   ·exact h.elim
  ·exact h.elim
 | call c => exact free_call hev e hf hl h
 | _ => simp [freeO0, e] at hf
end
end Go.Vc
