/- A calculus of verification conditions, part 6: addresses, loads, cuts. -/
import Derived.Test.YtcdbgkcijelopaaDoorVc5
set_option linter.unusedVariables false
namespace Go.Vc
open Go Go.RowKit

section
variable {C : Cx} {n : Nat} {F : Fm} {ok0 : Nat → Prop} {w0 : World} {ok : Nat → Prop} {β : Nat → Value} {s : S} {a : Act} {w : World} {own : Nat → Bool} {o : Oper} {k : U → Prop} {K : Act → World → Prop} {Q : Exit → Act → World → Prop}

theorem add_add (ad : Addr) (m j : Nat) : (ad.add m).add j = ad.add (m + j) := by
  unfold Addr.add
  by_cases h1 : m = 0 <;> by_cases h2 : j = 0 <;> simp [h1, h2, Nat.add_assoc]
theorem add_plain (b off j : Nat) : (⟨b, off, none⟩ : Addr).add j = ⟨b, off + j, none⟩ := by unfold Addr.add; split <;> simp_all

theorem fld {P : Program} {t : TypeId} {ti : TI} (h : TyOk P t ti) {f off m : Nat} (hf : ti.flds[f]? = some (off, m)) (hk : ti.k = 1) : ∃ fs fd i, P.underlying t = some (.struct fs) ∧ fs[f]? = some fd ∧ fd.offset = off ∧ P.info? fd.type = some i ∧ i.size = m := by
  obtain ⟨i, d, z, h1, h2, _, _, _, _, _, h3, _⟩ := h.out
  cases d <;> simp only [KindOk] at h3
  case struct fs =>
    have h4 := congrArg (fun l => l[f]?) h3.2.2
    simp only [List.getElem?_map, hf, Option.map_some] at h4
    cases e : fs.toList[f]? with
    | none => rw [e] at h4; simp at h4
    | some fd =>
      rw [e] at h4
      simp only [Option.map_some, Option.some.injEq, Prod.mk.injEq] at h4
      cases e2 : P.info? fd.type with
      | none => rw [e2] at h4; simp at h4
      | some i =>
        rw [e2] at h4
        simp at h4
        exact ⟨fs, fd, i, h2, by simpa using e, h4.1, e2, h4.2⟩
  all_goals omega
theorem run_fieldAt {P : Program} {t : TypeId} {ti : TI} (h : TyOk P t ti) {f off m : Nat} (hf : ti.flds[f]? = some (off, m + 1)) (hk : ti.k = 1) (ad : Addr) : (Instr.fieldAt t (.pointer (some ad)) f).run P w = .ok (.pointer (some (ad.add off))) w := by
  obtain ⟨fs, fd, i, h1, h2, h3, h4, h5⟩ := fld h hf hk
  have hz : (sizeOf fd.type).run P w = .ok (m + 1) w := by simp [sizeOf, typeInfo, h4, h5]
  simp only [Instr.fieldAt, Sem.run_bind, run_underlying h1, Result.andThen_ok, h2, Instr.sureAddr, Sem.run_pure, fieldPlace, hz, Sem.run_ite]
  simp [h3]
theorem flds_k {P : Program} {t : TypeId} {ti : TI} (h : TyOk P t ti) {f : Nat} {x : Nat × Nat} (hf : ti.flds[f]? = some x) (hk : ti.k = 1 ∨ ti.flds = []) : ti.k = 1 := by
  rcases hk with hk | hk
  · exact hk
  · rw [hk] at hf; simp at hf
theorem op_fieldAddr (hC : CxOk C) {t : TypeId} {x : Operand} {f : Nat} (ho : o.op = .fieldAddr t x f) (h : StO C n F ok0 w0 ok β s a w) (hd : ∀ d, o.dst = some d → d < n) (hvc : VC C own o s.ev s.η k)
    (hK : ∀ u a' w', k u → St C n F ok0 w0 (s.app o.dst u) a' w' → K a' w') : o.wp C.P a w K Q := by
  simp only [VC, ho] at hvc
  split at hvc
  · exact hvc.elim
  · rename_i ti eT
    split at hvc
    · rename_i off m ef
      obtain ⟨hk1, hvc⟩ := hvc
      have hr := ev_R h x
      have hkx := ev_keys h x
      split at hvc
      · rename_i κ o' e
        rw [e] at hr hkx
        rw [R] at hr
        obtain ⟨b, h1, h2⟩ := hr
        refine wp_read h hd hK (v := .pointer (some ⟨b, o' + off, none⟩)) ?_ hvc ?_ hkx
        · simp [execOp, ho, h2, run_fieldAt (hC.ty _ _ eT) ef hk1, add_plain]
        · rw [R]; exact ⟨b, h1, rfl⟩
      · rename_i y e
        rw [e] at hr hkx
        rw [R] at hr
        obtain ⟨ad, c, h1, h2⟩ := hr
        refine wp_read h hd hK (v := .pointer (some (ad.add off))) ?_ hvc ?_ (by intro κ hκ; cases hκ)
        · simp [execOp, ho, h1, run_fieldAt (hC.ty _ _ eT) ef hk1]
        · rw [R]; exact ⟨ad, c, rfl, h2⟩
      · rename_i y o' e
        rw [e] at hr hkx
        rw [R] at hr
        obtain ⟨ad, c, h1, h2⟩ := hr
        refine wp_read h hd hK (v := .pointer (some (ad.add (o' + off)))) ?_ hvc ?_ (by intro κ hκ; cases hκ)
        · simp [execOp, ho, h1, run_fieldAt (hC.ty _ _ eT) ef hk1, add_add]
        · rw [R]; exact ⟨ad, c, rfl, h2⟩
      · exact hvc.elim
    · exact hvc.elim

theorem op_indexAddr (hC : CxOk C) {t : TypeId} {x ix : Operand} (ho : o.op = .indexAddr t x ix) (h : StO C n F ok0 w0 ok β s a w) (hd : ∀ d, o.dst = some d → d < n) (hvc : VC C own o s.ev s.η k)
    (hK : ∀ u a' w', k u → St C n F ok0 w0 (s.app o.dst u) a' w' → K a' w') : o.wp C.P a w K Q := by
  simp only [VC, ho] at hvc
  split at hvc
  · rename_i ti j m eT ei
    have hi := ev_int h ei
    split at hvc
    · exact hvc.elim
    · rename_i te eE
      have hr := ev_R h x
      have hsz := (hC.ty _ _ eE).size w
      split at hvc
      · rename_i L e
        obtain ⟨h0, y, hy, hk2, hsh, hvc⟩ := hvc
        rw [e, R, RP] at hr
        obtain ⟨A, cap, sz, h1, h2, h3, h4⟩ := hr
        obtain ⟨ad, c, rfl, h5, h6, h7, h8⟩ := RPE_get h4 hy
        have hlt : m.toNat < L.length := (List.getElem?_eq_some_iff.1 hy).1
        have hce : sz = te.sz := by rw [← h7, (RP_one h6).2.1, hsh]
        subst hce
        refine wp_read h hd hK (x := .elt y) (v := .pointer (some (ad.add (m.toNat * te.sz)))) ?_ hvc ?_ (by intro κ hκ; cases hκ)
        · have : 0 ≤ m ∧ m < (L.length : Int) := ⟨h0, by omega⟩
          simp [execOp, ho, h1, hi, Instr.indexAt, asIntOf, run_underlying ((hC.ty _ _ eT).slice hk2), hsz, this]
        · rw [R]
          exact ⟨_, c, rfl, by rw [add_block]; exact h5, h6, fun i u hu => by rw [add_add]; simpa using h8 i u hu⟩
      · rename_i g e
        split at hvc
        · rename_i L eL
          obtain ⟨h0, y, hy, hk2, hal, hsh, hvc⟩ := hvc
          rw [e, R] at hr
          obtain ⟨sz, h4⟩ := h.gx.2 g L eL
          obtain ⟨ad, c, had, h5, h6, h7, h8⟩ := RPE_get h4 hy
          have hlt : m.toNat < L.length := (List.getElem?_eq_some_iff.1 hy).1
          have hce : sz = te.sz := by rw [← h7, (RP_one h6).2.1, hsh]
          subst hce
          simp only [Option.some.injEq] at had
          subst had
          refine wp_read h hd hK (x := .elt y) (v := .pointer (some ((⟨g, 0, none⟩ : Addr).add (m.toNat * te.sz)))) ?_ hvc ?_ (by intro κ hκ; cases hκ)
          · have : 0 ≤ m ∧ m < (ti.alen : Int) := ⟨h0, by omega⟩
            simp [execOp, ho, hr, hi, Instr.indexAt, asIntOf, run_underlying ((hC.ty _ _ eT).array hk2), hsz, this, Instr.sureAddr]
          · rw [R]
            exact ⟨_, c, rfl, by rw [add_block]; exact h5, h6, fun i u hu => by rw [add_add]; simpa using h8 i u hu⟩
        · exact hvc.elim
      · rename_i κ e
        split at hvc
        · rename_i t' sz L eη
          obtain ⟨h0, hlt, hk2, hsz', hvc⟩ := hvc
          subst hsz'
          have hob := h.η κ
          rw [eη] at hob
          obtain ⟨_, ⟨xs, h1, _⟩, _⟩ := hob
          rw [e, R] at hr
          obtain ⟨hr, _⟩ := hr
          obtain ⟨g, cap, hb⟩ : ∃ g cap, β κ = .slice (some ⟨g, 0, none⟩) L.length cap := by
            rcases h1.2 with ⟨_, h0⟩ | ⟨g, cap, cur, hb, _⟩
            · omega
            · exact ⟨g, cap, hb⟩
          have hkx := ev_keys h x
          rw [e] at hkx
          refine wp_read h hd hK (x := .rowE κ te.sz m.toNat) (v := .pointer (some ((⟨g, 0, none⟩ : Addr).add (m.toNat * te.sz)))) ?_ hvc ?_ hkx
          · have : 0 ≤ m ∧ m < (L.length : Int) := ⟨h0, by omega⟩
            simp [execOp, ho, hr, hb, hi, Instr.indexAt, asIntOf, run_underlying ((hC.ty _ _ eT).slice hk2), hsz, this]
          · rw [R]
            exact ⟨g, _, _, hb, rfl⟩
        · exact hvc.elim
      · exact hvc.elim
  · exact hvc.elim
theorem getElem?_sub {α : Type} {l : List α} {off sz j : Nat} {u : α} (h : ((l.drop off).take sz)[j]? = some u) : l[off + j]? = some u := by
  rw [List.getElem?_take] at h
  split at h
  · rwa [List.getElem?_drop] at h
  · cases h
theorem op_load (hC : CxOk C) {t : TypeId} {x : Operand} (ho : o.op = .load t x) (h : StO C n F ok0 w0 ok β s a w) (hd : ∀ d, o.dst = some d → d < n) (hvc : VC C own o s.ev s.η k)
    (hK : ∀ u a' w', k u → St C n F ok0 w0 (s.app o.dst u) a' w' → K a' w') : o.wp C.P a w K Q := by
  simp only [VC, ho] at hvc
  have fin : ∀ (ad : Addr) (z : SV) (v : Value), a.eval x = .pointer (some ad) → (loadVar t ad).run C.P w = .ok v w → R ok β w z v → (∀ κ ∈ z.keys, (s.η κ).live = true) → k { x := z } → o.wp C.P a w K Q := by
    intro ad z v h1 h2 h3 h4 h5
    exact wp_read h hd hK (v := v) (by simp [execOp, ho, h1, Instr.loadAt, Instr.sureAddr, h2]) h5 h3 h4
  split at hvc
  · exact hvc.elim
  · rename_i ti eT
    have hT := hC.ty _ _ eT
    have hr := ev_R h x
    split at hvc
    · rename_i κ off e
      split at hvc
      · rename_i own' t' y eη
        have hob := h.η κ
        rw [eη] at hob
        obtain ⟨b, v, hb, hheap, hy, _, _, hone, hty⟩ := hob
        rw [e, R] at hr
        obtain ⟨b', hb', hv⟩ := hr
        have : b' = b := by rw [hb] at hb'; simpa using hb'.symm
        subst this
        have hyk : ∀ κ' ∈ y.keys, (s.η κ').live = true := fun κ' hκ' => h.wf.η κ κ' (by rw [eη]; exact hκ')
        have hcell : ∀ j u, v.cells.toList[j]? = some u → w.cell? ⟨b', j, none⟩ = some u := by
          intro j u hj
          simp only [World.cell?, hheap]
          simpa using hj
        simp only [ldVC] at hvc
        cases hc : (Nat.beq t t' && Nat.beq off 0) with
        | true =>
          rw [hc] at hvc
          simp only [Bool.and_eq_true, Nat.beq_eq] at hc
          obtain ⟨rfl, rfl⟩ := hc
          obtain ⟨h1, h2, h3⟩ := hty ti eT
          cases ha : ti.agg with
          | true =>
            refine fin ⟨b', 0, none⟩ y v hv ?_ hy hyk hvc
            have := run_loadVar_agg hT ha (w := w) (ad := ⟨b', 0, none⟩) (cs := v.cells.toList) (by simpa using h1) (fun j u hj => by rw [add_plain]; simpa using hcell j u hj)
            rw [this]
            congr 1
            rw [Array.toArray_toList, ← h2 ha]
          | false =>
            refine fin ⟨b', 0, none⟩ y v hv ?_ hy hyk hvc
            refine run_loadVar_one hT ha (hcell 0 v ?_)
            rw [one_cells (h3 ha)]
            rfl
        | false =>
          rw [hc] at hvc
          simp only [cond_false] at hvc
          split at hvc
          · exact hvc.elim
          · rename_i cs ecs
            have hcs := cells_R hy ecs
            cases ha : ti.agg with
            | true =>
              rw [ha] at hvc
              simp only [cond_true] at hvc
              obtain ⟨hle, hvc⟩ := hvc
              have hlen := RL_length hcs
              refine fin ⟨b', off, none⟩ _ (.agg ((v.cells.toList.drop off).take ti.sz).toArray) hv ?_ (ofCells_R (RL_take _ (RL_drop _ hcs)) fun u hu => hone u (List.mem_of_mem_drop (List.mem_of_mem_take hu))) ?_ hvc
              · refine run_loadVar_agg hT ha ?_ fun j u hj => ?_
                · rw [List.length_take, List.length_drop]; omega
                · rw [add_plain]; exact hcell _ u (getElem?_sub hj)
              · intro κ' hκ'
                exact hyk κ' (cells_keys ecs (keysL_sub (fun z hz => List.mem_of_mem_drop (List.mem_of_mem_take hz)) (ofCells_keys hκ')))
            | false =>
              rw [ha] at hvc
              simp only [cond_false] at hvc
              split at hvc
              · rename_i z ez
                obtain ⟨u, hu, hz⟩ := RL_get hcs ez
                exact fin ⟨b', off, none⟩ z u hv (run_loadVar_one hT ha (hcell off u hu)) hz (fun κ' hκ' => hyk κ' (cells_keys ecs (keysL_mem (List.mem_of_getElem? ez) hκ'))) hvc
              · exact hvc.elim
      · exact hvc.elim
    · rename_i y e
      obtain ⟨hsh, hvc⟩ := hvc
      rw [e, R] at hr
      obtain ⟨ad, c, h1, h2, h3, h4⟩ := hr
      have h5 := RP_one h3
      rw [hsh] at h5
      cases ha : ti.agg with
      | true =>
        refine fin ad (.p y) c h1 ?_ h3 (by intro κ hκ; cases hκ) hvc
        have := run_loadVar_agg hT ha (w := w) (ad := ad) (cs := c.cells.toList) (by simpa using h5.2.1) (fun j u hj => h4 j u (by simpa using hj))
        rw [this]
        congr 1
        rw [Array.toArray_toList, ← h5.2.2.1 ha]
      | false =>
        refine fin ad (.p y) c h1 (run_loadVar_one hT ha ?_) h3 (by intro κ hκ; cases hκ) hvc
        have := h4 0 c (by rw [one_cells (h5.2.2.2 ha)]; rfl)
        simpa [Addr.add] using this
    · rename_i y f e
      rw [e, R] at hr
      obtain ⟨ad, c, h1, h2, h3, h4⟩ := hr
      split at hvc
      · rename_i cs
        rw [RP] at h3
        obtain ⟨vs, rfl, h5, h6⟩ := h3
        cases ha : ti.agg with
        | true =>
          rw [ha] at hvc
          simp only [cond_true] at hvc
          obtain ⟨hle, hvc⟩ := hvc
          have hlen := RPL_length h6
          refine fin (ad.add f) _ (.agg ((vs.drop f).take ti.sz).toArray) h1 ?_ ?_ (by intro κ hκ; cases hκ) hvc
          · refine run_loadVar_agg hT ha ?_ fun j u hj => ?_
            · rw [List.length_take, List.length_drop]; omega
            · rw [add_add]
              exact h4 _ u (by simpa [Value.cells] using getElem?_sub hj)
          · rw [R, RP]
            exact ⟨_, rfl, fun u hu => h5 u (List.mem_of_mem_drop (List.mem_of_mem_take hu)), RPL_take _ (RPL_drop _ h6)⟩
        | false =>
          rw [ha] at hvc
          simp only [cond_false] at hvc
          split at hvc
          · rename_i z ez
            obtain ⟨u, hu, hz⟩ := RPL_get h6 ez
            exact fin (ad.add f) (.p z) u h1 (run_loadVar_one hT ha (h4 f u (by simpa [Value.cells] using hu))) hz (by intro κ hκ; cases hκ) hvc
          · exact hvc.elim
      · exact hvc.elim
    · rename_i κ sz i e
      split at hvc
      · rename_i t' sz' L eη
        obtain ⟨y, hy, rfl, hszt, hsh, hvc⟩ := hvc
        have hob := h.η κ
        rw [eη] at hob
        obtain ⟨hpos, ⟨xs, hrow, hrr⟩, _⟩ := hob
        rw [e, R] at hr
        obtain ⟨g, m, cap0, hβ, hv⟩ := hr
        rw [add_plain, Nat.zero_add] at hv
        obtain ⟨c, hc, hce⟩ := hrr.2 i y hy
        have h5 := RP_one hc
        rw [hsh] at h5
        have hcell : ∀ j u, c.cells.toList[j]? = some u → w.cell? ⟨g, i * sz + j, none⟩ = some u := by
          intro j u hj
          rcases hrow.2 with ⟨q, _⟩ | ⟨g', cap, cur, q, q2, q3, q4, q5, q6, q7⟩
          · rw [q] at hβ; simp at hβ
          · rw [q] at hβ
            simp only [Value.slice.injEq, Option.some.injEq, Addr.mk.injEq] at hβ
            obtain ⟨⟨rfl, _⟩, _⟩ := hβ
            simp only [World.cell?, q3]
            rw [hce] at hj
            have h6 := getElem?_sub hj
            rw [← q7, List.getElem?_take] at h6
            split at h6
            · simpa using h6
            · cases h6
        cases ha : ti.agg with
        | true =>
          refine fin ⟨g, i * sz, none⟩ (.p y) c hv ?_ hc (by intro κ hκ; cases hκ) hvc
          have := run_loadVar_agg hT ha (w := w) (ad := ⟨g, i * sz, none⟩) (cs := c.cells.toList) (by simpa using h5.2.1) (fun j u hj => by rw [add_plain]; exact hcell j u hj)
          rw [this]
          congr 1
          rw [Array.toArray_toList, ← h5.2.2.1 ha]
        | false =>
          refine fin ⟨g, i * sz, none⟩ (.p y) c hv (run_loadVar_one hT ha ?_) hc (by intro κ hκ; cases hκ) hvc
          have := hcell 0 c (by rw [one_cells (h5.2.2.2 ha)]; rfl)
          simpa using this
      · exact hvc.elim
    · exact hvc.elim
theorem op_index (hC : CxOk C) {t : TypeId} {x ix : Operand} (ho : o.op = .index t x ix) (h : StO C n F ok0 w0 ok β s a w) (hd : ∀ d, o.dst = some d → d < n) (hvc : VC C own o s.ev s.η k)
    (hK : ∀ u a' w', k u → St C n F ok0 w0 (s.app o.dst u) a' w' → K a' w') : o.wp C.P a w K Q := by
  simp only [VC, ho] at hvc
  split at hvc
  · rename_i ti l j m eT e ei
    obtain ⟨hk, h0, c, hc, hvc⟩ := hvc
    have h1 := ev_str h e
    have h2 := ev_int h ei
    refine wp_read h hd hK (v := .int .u8 c.toNat) ?_ hvc (by rw [R, RP]) (by intro κ hκ; cases hκ)
    have hlt := (List.getElem?_eq_some_iff.1 hc)
    obtain ⟨hlt, hce⟩ := hlt
    have hsize : (ByteArray.mk l.toArray).size = l.length := by simp [ByteArray.size]
    have hget : (ByteArray.mk l.toArray)[m.toNat]? = some c := by
      rw [getElem?_pos (ByteArray.mk l.toArray) m.toNat (by rw [hsize]; exact hlt)]
      congr 1
    simp [execOp, ho, h1, h2, Instr.index, asIntOf, run_underlying ((hC.ty _ _ eT).string hk), h0, hget]
  · exact hvc.elim
end
end Go.Vc
