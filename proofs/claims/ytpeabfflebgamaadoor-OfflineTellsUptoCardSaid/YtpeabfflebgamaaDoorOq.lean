/- What comes in as a term, or as terms, is one, and no greater than its reading. -/
import Derived.Test.YtpeabfflebgamaaDoorOp
import Derived.Test.YtpeabfflebgamaaDoorGg
import Derived.Test.YtpeabfflebgamaaDoorRows
set_option linter.unusedVariables false
set_option linter.constructorNameAsVariable false
set_option maxRecDepth 100000
namespace Go.Sl
open Go Go.Vc Go.Proofs Go.RowKit
open Go.Proofs.YtpeabfflebgamaaDoor

section
variable {H : Type} {enc : TypeId × Value → H} {W : World} {sp : Nat → Bool} {held : Bool}
theorem wts_bulk : ∀ (l : List Tm) (elems : List (DataW H × List MemPlace)), l.length = elems.length → (∀ (i : Nat) (t : Tm), l[i]? = some t → ∃ y : DataW H × List MemPlace, elems[i]? = some y ∧ wt t ≤ Rows.uptoBulk y.1) → wts l ≤ Rows.uptoBulkAll (elems.map (·.1))
  | [], _, _, _ => Nat.zero_le _
  | t :: l, [], h, _ => by simp at h
  | t :: l, y :: elems, h, hl => by
    obtain ⟨z, h1, h2⟩ := hl 0 t rfl
    simp at h1
    subst h1
    have := wts_bulk l elems (by simpa using h) fun i u hu => by
      obtain ⟨z, h1, h2⟩ := hl (i + 1) u (by simpa using hu)
      exact ⟨z, by simpa using h1, h2⟩
    simp only [List.map_cons, wts, Rows.uptoBulkAll]
    omega
theorem open_bulk : ∀ fuel : Nat,
    (∀ (cs : List Value) x, DataW.trod enc Tryd.prog W 0 sp held fuel 24 cs = some x → ∃ t : Tm, Fit t ∧ RP (okW W) W (TV t) (.agg cs.toArray) ∧ cs.length = 3 ∧ wt t ≤ Rows.uptoBulk x.1) ∧
    (∀ (v : Value) x, DataW.trod enc Tryd.prog W 0 sp held fuel 22 [v] = some x → ∃ l : List Tm, (∀ t ∈ l, Fit t) ∧ RP (okW W) W (.lst (tmvs l)) v ∧ l.length ≤ maxLen ∧ wts l ≤ Rows.uptoBulk x.1)
  | 0 => ⟨fun cs x h => by simp [DataW.trod] at h, fun v x h => by simp [DataW.trod] at h⟩
  | n + 1 => by
    obtain ⟨ihT, ihL⟩ := open_bulk n
    refine ⟨fun cs x h => ?_, fun v x h => ?_⟩
    · obtain ⟨fs, hu, hfs⟩ := termFields
      obtain ⟨xs, m, hm, hxe, hlen, hxl, hget⟩ := DataW.trod_struct hu h
      rw [cellsTerm] at hlen
      obtain rfl : n = m := by omega
      obtain ⟨c0, c1, c2, rfl⟩ := len3 hlen
      have hfl : fs.toList.length = 3 := by have := congrArg List.length hfs; simpa using this
      have hf3 : fs.size = 3 := (Array.length_toList (xs := fs)).symm.trans hfl
      have hfi : ∀ i (hi : i < 3) , ∃ f, fs[i]? = some f ∧ [(0, 3), (1, 9), (2, 22)][i]? = some (f.offset, f.type) := by
        intro i hi
        have : (fs.toList.map (fun f => (f.offset, f.type)))[i]? = _ := congrArg (·[i]?) hfs
        rw [List.getElem?_map] at this
        have hlt : i < fs.toList.length := by omega
        rw [List.getElem?_eq_getElem hlt] at this
        exact ⟨fs.toList[i], by simp, this.symm⟩
      have hx : ∀ i, i < 3 → ∃ y, xs[i]? = some y := fun i hi => ⟨xs[i]'(by rw [hxl, hf3]; exact hi), List.getElem?_eq_getElem _⟩
      obtain ⟨f0, g0, e0⟩ := hfi 0 (by omega)
      obtain ⟨f1, g1, e1⟩ := hfi 1 (by omega)
      obtain ⟨f2, g2, e2⟩ := hfi 2 (by omega)
      simp at e0 e1 e2
      obtain ⟨y0, k0⟩ := hx 0 (by omega)
      obtain ⟨y1, k1⟩ := hx 1 (by omega)
      obtain ⟨y2, k2⟩ := hx 2 (by omega)
      have q0 := (hget 0 f0 g0).trans k0
      have q1 := (hget 1 f1 g1).trans k1
      have q2 := (hget 2 f2 g2).trans k2
      rw [← e0.1, ← e0.2, cellsInt] at q0
      rw [← e1.1, ← e1.2, cellsStr] at q1
      rw [← e2.1, ← e2.2, cellsTerms] at q2
      obtain ⟨k, hk, hy0, _⟩ := DataW.trod_int undInt q0
      obtain ⟨s, hs, hy1, hsz⟩ := DataW.trod_string undStr q1
      obtain ⟨l, hl, hr, hll, hw⟩ := ihL c2 _ q2
      simp at hk hs
      subst hk hs
      refine ⟨.mk k s.data.toList l, .mk hll (Nat.le_trans (Nat.le_of_eq (Array.length_toList (xs := s.data))) hsz) hl, ?_, rfl, ?_⟩
      rotate_left
      · have hx3 : xs = [y0, y1, y2] := by
          obtain ⟨z0, z1, z2, rfl⟩ := len3 (hxl.trans hf3)
          simp at k0 k1 k2
          rw [k0, k1, k2]
        rw [hxe, hx3, hy0, hy1]
        simp only [List.map_cons, List.map_nil, Rows.uptoBulk, Rows.uptoBulkAll, wt]
        omega
      rw [TV, RP]
      refine ⟨[.int .i64 k, .string s, c2], rfl, ?_, ?_⟩
      · intro u hu
        simp at hu
        rcases hu with rfl | rfl | rfl
        · rfl
        · rfl
        · rw [RP] at hr
          obtain ⟨A, cap, sz, rfl, _⟩ := hr
          rfl
      · refine ⟨by rw [RP]; rfl, ?_, hr, trivial⟩
        rw [RP]
        rfl
    · rcases DataW.trod_slice undTerms h with ⟨hv, _⟩ | ⟨a, len, cap, elems, rest, m, hm, hv, hxe, _, hlc, hcm, hel, hget, _⟩
      · simp at hv
        subst hv
        refine ⟨[], by simp, ?_, Nat.zero_le _, Nat.zero_le _⟩
        rw [RP]
        exact ⟨none, 0, 3, rfl, Nat.le_refl _, by simp [maxLen], trivial⟩
      · simp at hv
        subst hv
        obtain rfl : n = m := by omega
        have hex : ∀ i, i < len → ∃ t : Tm, Fit t ∧ a.block < W.heap.size ∧ ∃ c, RP (okW W) W (TV t) c ∧ c.cells.size = 3 ∧ (∀ j u, c.cells[j]? = some u → W.cell? (a.add (i * 3 + j)) = some u) ∧ ∃ y, elems[i]? = some y ∧ wt t ≤ Rows.uptoBulk y.1 := by
          intro i hi
          have h1 := hget i hi
          rw [cellsTerm, List.getElem?_eq_getElem (by omega)] at h1
          obtain ⟨cs, hcs, ht⟩ := Option.bind_eq_some_iff.1 h1
          obtain ⟨t, hf, hr, h3, hw⟩ := ihT cs _ ht
          have hb := World.cells?_block hcs (by omega)
          obtain ⟨_, _, hc⟩ := World.cells?_some hcs
          refine ⟨t, hf, by rwa [add_block] at hb, .agg cs.toArray, hr, by simp [Value.cells, h3], fun j u hu => ?_, _, List.getElem?_eq_getElem (by omega), hw⟩
          simp only [Value.cells, List.getElem?_toArray] at hu
          have hj : j < 3 := by
            have := (List.getElem?_eq_some_iff.1 hu).1
            omega
          rw [← add_add, hc j hj, hu]
        obtain ⟨l, hll, hl⟩ := choose_list hex
        refine ⟨l, fits_of fun i t ht => (hl i t ht).1, ?_, by omega, ?_⟩
        rotate_left
        · rw [hxe]
          have hsum : wts l ≤ Rows.uptoBulkAll (elems.map (·.1)) := wts_bulk l elems (by omega) fun i t ht => by
            obtain ⟨_, _, _, _, _, _, y, h1, h2⟩ := hl i t ht
            exact ⟨y, h1, h2⟩
          simp only [Rows.uptoBulk]
          omega
        rw [RP, tmvs_length, hll]
        refine ⟨some a, cap, 3, rfl, hlc, hcm, RPE_of fun i x hx => ?_⟩
        rw [tmvs_eq, List.getElem?_map] at hx
        obtain ⟨t, ht, rfl⟩ := Option.map_eq_some_iff.1 hx
        obtain ⟨_, hb, c, h1, h2, h3, _⟩ := hl i t ht
        exact ⟨a, c, rfl, hb, h1, h2, by simpa using h3⟩
end
end Go.Sl
