/- What comes in as texts, and no greater than its reading. -/
import Derived.Test.YtjabfkeppaoegaaDoorRq
set_option linter.unusedVariables false
set_option linter.constructorNameAsVariable false
set_option maxRecDepth 100000
namespace Go.Sl
open Go Go.Vc Go.Proofs Go.RowKit Go.ChangeShapes Go.WideShapes Go.ChangeAt
open Go.Proofs.YtjabfkeppaoegaaDoor

def strsL (l : List Bs) : List PV := l.map .str
def lens : List Bs → Nat
  | [] => 0
  | s :: l => s.length + lens l
theorem undStrs : Tryd.prog.underlying 37 = some (.slice 9) := Tryd.underlying37
section
variable {H : Type} {enc : TypeId × Value → H} {W : World} {sp : Nat → Bool} {held : Bool}
theorem lens_bulk : ∀ (l : List Bs) (elems : List (DataW H × List MemPlace)), l.length = elems.length → (∀ (i : Nat) (t : Bs), l[i]? = some t → ∃ y : DataW H × List MemPlace, elems[i]? = some y ∧ t.length ≤ Rows.uptoBulk y.1) → lens l ≤ Rows.uptoBulkAll (elems.map (·.1))
  | [], _, _, _ => Nat.zero_le _
  | t :: l, [], h, _ => by simp at h
  | t :: l, y :: elems, h, hl => by
    obtain ⟨z, h1, h2⟩ := hl 0 t rfl
    simp at h1
    subst h1
    have := lens_bulk l elems (by simpa using h) fun i u hu => by
      obtain ⟨z, h1, h2⟩ := hl (i + 1) u (by simpa using hu)
      exact ⟨z, by simpa using h1, h2⟩
    simp only [List.map_cons, lens, Rows.uptoBulkAll]
    omega
theorem open_strs : ∀ (fuel : Nat) (v : Value) x, DataW.trod enc Tryd.prog W 0 sp held fuel 37 [v] = some x → ∃ l : List Bs, RP (okW W) W (.lst (strsL l)) v ∧ l.length ≤ maxLen ∧ lens l ≤ Rows.uptoBulk x.1
  | 0, v, x, h => by simp [DataW.trod] at h
  | n + 1, v, x, h => by
    rcases DataW.trod_slice undStrs h with ⟨hv, _⟩ | ⟨a, len, cap, elems, rest, m, hm, hv, hxe, _, hlc, hcm, hel, hget, _⟩
    · simp at hv
      subst hv
      refine ⟨[], ?_, Nat.zero_le _, Nat.zero_le _⟩
      rw [RP]
      exact ⟨none, 0, 1, rfl, Nat.le_refl _, by simp [maxLen], trivial⟩
    · simp at hv
      subst hv
      obtain rfl : n = m := by omega
      have hex : ∀ i, i < len → ∃ t : Bs, a.block < W.heap.size ∧ W.cell? (a.add (i * 1)) = some (.string ⟨t.toArray⟩) ∧ ∃ y, elems[i]? = some y ∧ t.length ≤ Rows.uptoBulk y.1 := by
        intro i hi
        have h1 := hget i hi
        rw [cellsStr, List.getElem?_eq_getElem (by omega)] at h1
        obtain ⟨cs, hcs, ht⟩ := Option.bind_eq_some_iff.1 h1
        have hb := World.cells?_block hcs (by omega)
        obtain ⟨hl1, _, hc⟩ := World.cells?_some hcs
        cases n with
        | zero => simp [DataW.trod] at ht
        | succ n =>
          obtain ⟨s, hs, hy, hsz⟩ := DataW.trod_string undStr ht
          subst hs
          have h0 := hc 0 (by omega)
          refine ⟨s.data.toList, by rwa [add_block] at hb, ?_, _, List.getElem?_eq_getElem (by omega), ?_⟩
          · rw [add_add] at h0
            simpa using h0
          · rw [hy]; simp [Rows.uptoBulk]
      obtain ⟨l, hll, hl⟩ := choose_list hex
      refine ⟨l, ?_, by omega, ?_⟩
      rotate_left
      · rw [hxe]
        have hsum : lens l ≤ Rows.uptoBulkAll (elems.map (·.1)) := lens_bulk l elems (by omega) fun i t ht => by
          obtain ⟨_, _, y, h1, h2⟩ := hl i t ht
          exact ⟨y, h1, h2⟩
        simp only [Rows.uptoBulk]
        omega
      have hsl : (strsL l).length = len := by rw [strsL, List.length_map, hll]
      rw [RP, hsl]
      refine ⟨some a, cap, 1, rfl, hlc, hcm, RPE_of fun i x hx => ?_⟩
      rw [strsL, List.getElem?_map] at hx
      obtain ⟨t, ht, rfl⟩ := Option.map_eq_some_iff.1 hx
      obtain ⟨hb, h1, _⟩ := hl i t ht
      refine ⟨a, .string ⟨t.toArray⟩, rfl, hb, by rw [RP], by simp [Value.cells], fun j u hu => ?_⟩
      simp only [Value.cells] at hu
      have hj : j = 0 := by
        have := (Array.getElem?_eq_some_iff.1 hu).1
        simp at this; exact this
      subst hj
      simp at hu
      rw [← hu]
      simpa using h1
end
theorem open_strsB {H : Type} {enc : TypeId × Value → H} {W : World} {base : Nat} {v : Value} {d : DataW H} {p : List MemPlace} (hval : Value.okWide Tryd.prog W .any base 37 v) (h : DataW.Trod enc Tryd.prog W 0 (fun _ => true) true 37 v d p) :
    ∃ l : List Bs, RP (okW W) W (.lst (strsL l)) v ∧ l.length ≤ 9223372036854775807 ∧ lens l ≤ Rows.uptoBulk d := by
  obtain ⟨a0, n, c, rfl⟩ := okWide_slice undStrs hval
  obtain ⟨fuel, hf⟩ := h
  exact open_strs fuel _ _ (by simpa [Value.cells] using hf)
end Go.Sl
