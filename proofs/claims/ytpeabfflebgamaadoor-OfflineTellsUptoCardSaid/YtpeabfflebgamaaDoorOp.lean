/- What comes in as a term, or as terms, is one. -/
import Derived.Test.YtpeabfflebgamaaDoorFd
import Derived.ProofKit
import Derived.ChangeArms
import Derived.DataReads
set_option linter.unusedVariables false
namespace Go.Sl
open Go Go.Vc Go.Proofs Go.RowKit

theorem cellsTerm : Tryd.prog.cellsOf 24 = 3 := by kernel_rfl
theorem cellsInt : Tryd.prog.cellsOf 3 = 1 := by kernel_rfl
theorem cellsStr : Tryd.prog.cellsOf 9 = 1 := by kernel_rfl
theorem cellsTerms : Tryd.prog.cellsOf 22 = 1 := by kernel_rfl
theorem undTerms : Tryd.prog.underlying 22 = some (.slice 24) := Tryd.underlying22
theorem undInt : Tryd.prog.underlying 3 = some (.int .i64) := Tryd.underlying3
theorem undStr : Tryd.prog.underlying 9 = some .string := Tryd.underlying9
theorem termFields : ∃ fs : Array Field, Tryd.prog.underlying 24 = some (.struct fs) ∧ fs.toList.map (fun f => (f.offset, f.type)) = [(0, 3), (1, 9), (2, 22)] := ⟨_, Tryd.underlying24, by kernel_rfl⟩
/-- What was there: every block. -/
abbrev okW (W : World) : Nat → Prop := fun b => b < W.heap.size
theorem choose_list {α : Type} {Q : Nat → α → Prop} : ∀ {n : Nat}, (∀ i, i < n → ∃ x, Q i x) → ∃ l : List α, l.length = n ∧ ∀ i x, l[i]? = some x → Q i x
  | 0, _ => ⟨[], rfl, fun i x h => by simp at h⟩
  | n + 1, h => by
    obtain ⟨l, hl, hq⟩ := choose_list (n := n) fun i hi => h i (by omega)
    obtain ⟨x, hx⟩ := h n (by omega)
    refine ⟨l ++ [x], by simp [hl], fun i y hy => ?_⟩
    by_cases hi : i < l.length
    · rw [List.getElem?_append_left hi] at hy
      exact hq i y hy
    · rw [List.getElem?_append_right (by omega)] at hy
      have : i - l.length = 0 := by
        rcases Nat.eq_zero_or_pos (i - l.length) with h0 | h0
        · exact h0
        · rw [List.getElem?_eq_none (by simp only [List.length_singleton]; omega)] at hy; cases hy
      rw [this] at hy
      simp at hy
      subst hy
      rwa [show i = n by omega]
theorem len3 {α : Type} : ∀ {l : List α}, l.length = 3 → ∃ a b c, l = [a, b, c]
  | [a, b, c], _ => ⟨a, b, c, rfl⟩
section
variable {H : Type} {enc : TypeId × Value → H} {W : World} {sp : Nat → Bool} {held : Bool}
theorem fits_of {l : List Tm} (h : ∀ (i : Nat) t, l[i]? = some t → Fit t) : ∀ t ∈ l, Fit t := fun t ht => by
  obtain ⟨i, hi, rfl⟩ := List.mem_iff_getElem.1 ht
  exact h i _ (List.getElem?_eq_getElem hi)
theorem open_both : ∀ fuel : Nat,
    (∀ (cs : List Value) x, DataW.trod enc Tryd.prog W 0 sp held fuel 24 cs = some x → ∃ t : Tm, Fit t ∧ RP (okW W) W (TV t) (.agg cs.toArray) ∧ cs.length = 3) ∧
    (∀ (v : Value) x, DataW.trod enc Tryd.prog W 0 sp held fuel 22 [v] = some x → ∃ l : List Tm, (∀ t ∈ l, Fit t) ∧ RP (okW W) W (.lst (tmvs l)) v ∧ l.length ≤ maxLen)
  | 0 => ⟨fun cs x h => by simp [DataW.trod] at h, fun v x h => by simp [DataW.trod] at h⟩
  | n + 1 => by
    obtain ⟨ihT, ihL⟩ := open_both n
    refine ⟨fun cs x h => ?_, fun v x h => ?_⟩
    · obtain ⟨fs, hu, hfs⟩ := termFields
      obtain ⟨xs, m, hm, hx, hlen, hxl, hget⟩ := DataW.trod_struct hu h
      rw [cellsTerm] at hlen
      obtain rfl : n = m := by omega
      obtain ⟨c0, c1, c2, rfl⟩ := len3 hlen
      have hfl : fs.toList.length = 3 := by have := congrArg List.length hfs; simpa using this
      have hf3 : fs.size = 3 := (Array.length_toList (xs := fs)).symm.trans hfl
      have hfi : ∀ i (hi : i < 3) , ∃ f, fs[i]? = some f ∧ [(0, 3), (1, 9), (2, 22)][i]? = some (f.offset, f.type) := by
        intro i hi
        have : (fs.toList.map (fun f => (f.offset, f.type)))[i]? = _ := congrArg (·[i]?) hfs
        rw [List.getElem?_map] at this
        have hlt : i < fs.toList.length := by omega
        rw [List.getElem?_eq_getElem hlt] at this
        exact ⟨fs.toList[i], by simp, this.symm⟩
      have hx : ∀ i, i < 3 → ∃ y, xs[i]? = some y := fun i hi => ⟨xs[i]'(by rw [hxl, hf3]; exact hi), List.getElem?_eq_getElem _⟩
      obtain ⟨f0, g0, e0⟩ := hfi 0 (by omega)
      obtain ⟨f1, g1, e1⟩ := hfi 1 (by omega)
      obtain ⟨f2, g2, e2⟩ := hfi 2 (by omega)
      simp at e0 e1 e2
      obtain ⟨y0, k0⟩ := hx 0 (by omega)
      obtain ⟨y1, k1⟩ := hx 1 (by omega)
      obtain ⟨y2, k2⟩ := hx 2 (by omega)
      have q0 := (hget 0 f0 g0).trans k0
      have q1 := (hget 1 f1 g1).trans k1
      have q2 := (hget 2 f2 g2).trans k2
      rw [← e0.1, ← e0.2, cellsInt] at q0
      rw [← e1.1, ← e1.2, cellsStr] at q1
      rw [← e2.1, ← e2.2, cellsTerms] at q2
      obtain ⟨k, hk, _⟩ := DataW.trod_int undInt q0
      obtain ⟨s, hs, _, hsz⟩ := DataW.trod_string undStr q1
      obtain ⟨l, hl, hr, hll⟩ := ihL c2 _ q2
      simp at hk hs
      subst hk hs
      refine ⟨.mk k s.data.toList l, .mk hll (Nat.le_trans (Nat.le_of_eq (Array.length_toList (xs := s.data))) hsz) hl, ?_, rfl⟩
      rw [TV, RP]
      refine ⟨[.int .i64 k, .string s, c2], rfl, ?_, ?_⟩
      · intro u hu
        simp at hu
        rcases hu with rfl | rfl | rfl
        · rfl
        · rfl
        · rw [RP] at hr
          obtain ⟨A, cap, sz, rfl, _⟩ := hr
          rfl
      · refine ⟨by rw [RP]; rfl, ?_, hr, trivial⟩
        rw [RP]
        rfl
    · rcases DataW.trod_slice undTerms h with ⟨hv, _⟩ | ⟨a, len, cap, elems, rest, m, hm, hv, _, _, hlc, hcm, hel, hget, _⟩
      · simp at hv
        subst hv
        refine ⟨[], by simp, ?_, Nat.zero_le _⟩
        rw [RP]
        exact ⟨none, 0, 3, rfl, Nat.le_refl _, by simp [maxLen], trivial⟩
      · simp at hv
        subst hv
        obtain rfl : n = m := by omega
        have hex : ∀ i, i < len → ∃ t : Tm, Fit t ∧ a.block < W.heap.size ∧ ∃ c, RP (okW W) W (TV t) c ∧ c.cells.size = 3 ∧ ∀ j u, c.cells[j]? = some u → W.cell? (a.add (i * 3 + j)) = some u := by
          intro i hi
          have h1 := hget i hi
          rw [cellsTerm, List.getElem?_eq_getElem (by omega)] at h1
          obtain ⟨cs, hcs, ht⟩ := Option.bind_eq_some_iff.1 h1
          obtain ⟨t, hf, hr, h3⟩ := ihT cs _ ht
          have hb := World.cells?_block hcs (by omega)
          obtain ⟨_, _, hc⟩ := World.cells?_some hcs
          refine ⟨t, hf, by rwa [add_block] at hb, .agg cs.toArray, hr, by simp [Value.cells, h3], fun j u hu => ?_⟩
          simp only [Value.cells, List.getElem?_toArray] at hu
          have hj : j < 3 := by
            have := (List.getElem?_eq_some_iff.1 hu).1
            omega
          rw [← add_add, hc j hj, hu]
        obtain ⟨l, hll, hl⟩ := choose_list hex
        refine ⟨l, fits_of fun i t ht => (hl i t ht).1, ?_, by omega⟩
        rw [RP, tmvs_length, hll]
        refine ⟨some a, cap, 3, rfl, hlc, hcm, RPE_of fun i x hx => ?_⟩
        rw [tmvs_eq, List.getElem?_map] at hx
        obtain ⟨t, ht, rfl⟩ := Option.map_eq_some_iff.1 hx
        obtain ⟨_, hb, c, h1, h2, h3⟩ := hl i t ht
        exact ⟨a, c, rfl, hb, h1, h2, by simpa using h3⟩
end
end Go.Sl
