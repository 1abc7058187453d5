/- Part 22 of the proof: Zq. -/
import Derived.Test.YteicafhbhdliaaaGreatDoorOau
set_option linter.constructorNameAsVariable false
set_option linter.unusedVariables false
set_option maxHeartbeats 4000000
set_option maxRecDepth 100000
namespace Go.Sl
open Go Go.Vc Go.Proofs Go.RowKit Go.ChangeShapes Go.WideShapes Go.ChangeAt
open Go.Proofs.YteicafhbhdliaaaGreatDoor
theorem qU : Tryz.prog.cellsOf 119 = 6 := by kernel_rfl
theorem uS : Tryz.prog.underlying 50 = some (.slice 119) := Tryz.underlying50
theorem wN : ∃ fs : Array Field, Tryz.prog.underlying 119 = some (.struct fs) /\ fs.toList.map (fun f => (f.offset, f.type)) = [(0, 3), (1, 3), (2, 3), (3, 26)] := ⟨_, Tryz.underlying119, by kernel_rfl⟩
theorem IV {α : Type} : ∀ {l : List α}, l.length = 6 -> ∃ a b c d e f, l = [a, b, c, d, e, f]
 | [a, b, c, d, e, f], _ => ⟨a, b, c, d, e, f, rfl⟩
section
variable {H : Type} {enc : TypeId × Value -> H} {W : World} {sp : Nat -> Bool} {held : Bool}
theorem C7 (d : DataW H) : 1 <= Rows.uptoBulk d := by
 cases d with
 | lit l => cases l <;> simp [Rows.uptoBulk]
 | _ => simp [Rows.uptoBulk]
theorem uT : ∀ (l : List (DataW H)), l.length <= Rows.uptoBulkAll l
 | [] => Nat.zero_le _
 | d :: l => by
  have h1 := C7 d;have h2 := uT l;simp only [List.length_cons, Rows.uptoBulkAll];omega
theorem py : ∀ {l : List (DataW H)} {d : DataW H}, d ∈ l -> Rows.uptoBulk d <= Rows.uptoBulkAll l
 | x :: l, d, h => by
  simp only [Rows.uptoBulkAll];rcases List.mem_cons.1 h with rfl | h
  ·omega
  ·have := py h;omega
theorem zG (n : Nat) (cs : List Value) (x : DataW H × List MemPlace) (h : DataW.trod enc Tryz.prog W 0 sp held (n + 1) 119 cs = some x) :
  ∃ s : Stp, RP (okW W) W s.pv (.agg cs.toArray) /\ cs.length = 6 /\ -9223372036854775808 <= s.pos /\ s.pos <= 9223372036854775807 /\ wt s.t <= Rows.uptoBulk x.1 := by
 obtain ⟨fs, hu, hfs⟩ := wN;obtain ⟨xs, m, hm, hxe, hlen, hxl, hget⟩ := DataW.trod_struct hu h;rw [qU] at hlen;obtain rfl : n = m := by omega
 obtain ⟨c0, c1, c2, c3, c4, c5, rfl⟩ := IV hlen;have hfl : fs.toList.length = 4 := by have := congrArg List.length hfs; simpa using this
 have hf4 : fs.size = 4 := (Array.length_toList (xs := fs)).symm.trans hfl;have hfi : ∀ i (hi : i < 4) , ∃ f, fs[i]? = some f /\ [(0, 3), (1, 3), (2, 3), (3, 26)][i]? = some (f.offset, f.type) := by
  intro i hi;have : (fs.toList.map (fun f => (f.offset, f.type)))[i]? = _ := congrArg (·[i]?) hfs;rw [List.getElem?_map] at this;have hlt : i < fs.toList.length := by omega
  rw [List.getElem?_eq_getElem hlt] at this;exact ⟨fs.toList[i], by simp, this.symm⟩
 have hx : ∀ i, i < 4 -> ∃ y, xs[i]? = some y := fun i hi => ⟨xs[i]'(by rw [hxl, hf4]; exact hi), List.getElem?_eq_getElem _⟩
 obtain ⟨f0, g0, e0⟩ := hfi 0 (by omega);obtain ⟨f1, g1, e1⟩ := hfi 1 (by omega);obtain ⟨f2, g2, e2⟩ := hfi 2 (by omega);obtain ⟨f3, g3, e3⟩ := hfi 3 (by omega);simp at e0 e1 e2 e3;obtain ⟨y0, k0⟩ := hx 0 (by omega);obtain ⟨y1, k1⟩ := hx 1 (by omega);obtain ⟨y2, k2⟩ := hx 2 (by omega);obtain ⟨y3, k3⟩ := hx 3 (by omega);have q0 := (hget 0 f0 g0).trans k0;have q1 := (hget 1 f1 g1).trans k1;have q2 := (hget 2 f2 g2).trans k2;have q3 := (hget 3 f3 g3).trans k3;rw [<- e0.1, <- e0.2, jG] at q0;rw [<- e1.1, <- e1.2, jG] at q1;rw [<- e2.1, <- e2.2, jG] at q2;rw [<- e3.1, <- e3.2, mN] at q3;obtain ⟨a, ha, _, wa⟩ := DataW.trod_int px q0;obtain ⟨b, hb, _, wb⟩ := DataW.trod_int px q1;obtain ⟨c, hc, _, wc⟩ := DataW.trod_int px q2;obtain ⟨t, ht, hr, _, hw⟩ := (mO n).1 _ _ q3;simp at ha hb hc hr;subst ha hb hc;refine ⟨⟨a, b, c, t⟩, ?_, rfl, (Go.bounds_i64 wc).1, (Go.bounds_i64 wc).2, ?_⟩
 ·rw [TV, RP] at hr;obtain ⟨vs, hv, h1, h2⟩ := hr;obtain rfl : [c3, c4, c5] = vs := by simpa using hv
  rw [Stp.pv, RP];refine ⟨_, rfl, fun u hu => ?_, by rw [RP], by rw [RP], by rw [RP], h2⟩;simp only [List.mem_cons, List.not_mem_nil, or_false] at hu;rcases hu with rfl | rfl | rfl | hu
  ·rfl
  ·rfl
  ·rfl
  ·exact h1 u (by simpa using hu)
 ·refine Nat.le_trans hw ?_;have hx3 : y3 ∈ xs := List.mem_of_getElem? k3;have hm : y3.1 ∈ xs.map (·.1) := List.mem_map.2 ⟨y3, hx3, rfl⟩;have := py hm;rw [hxe];simp only [Rows.uptoBulk];omega
theorem wO : ∀ (fuel : Nat) (v : Value) x, DataW.trod enc Tryz.prog W 0 sp held fuel 50 [v] = some x -> ∃ l : List Stp, RP (okW W) W (.lst (gS l)) v /\ l.length <= Rows.uptoBulk x.1 /\ ∀ s ∈ l, -9223372036854775808 <= s.pos /\ s.pos <= 9223372036854775807 /\ wt s.t <= Rows.uptoBulk x.1
 | 0, v, x, h => by simp [DataW.trod] at h
 | n + 1, v, x, h => by
  rcases DataW.trod_slice uS h with ⟨hv, _⟩ | ⟨a, len, cap, elems, rest, m, hm, hv, hxe, _, hlc, hcm, hel, hget, _⟩
  ·simp at hv;subst hv;refine ⟨[], ?_, Nat.zero_le _, fun s hs => by cases hs⟩;rw [RP];exact ⟨none, 0, 6, rfl, Nat.le_refl _, by simp [maxLen], trivial⟩
  ·simp at hv;subst hv;obtain rfl : n = m := by omega
   have hbx : Rows.uptoBulkAll (elems.map (·.1)) <= Rows.uptoBulk x.1 := by
    rw [hxe];simp only [Rows.uptoBulk];omega
   have hex : ∀ i, i < len -> ∃ s : Stp, a.block < W.heap.size /\ (∃ c, RP (okW W) W s.pv c /\ c.cells.size = 6 /\ ∀ j u, c.cells[j]? = some u -> W.cell? (a.add (i * 6 + j)) = some u) /\ -9223372036854775808 <= s.pos /\ s.pos <= 9223372036854775807 /\ wt s.t <= Rows.uptoBulk x.1 := by
    intro i hi;have h1 := hget i hi;rw [qU, List.getElem?_eq_getElem (by omega)] at h1;obtain ⟨cs, hcs, ht⟩ := Option.bind_eq_some_iff.1 h1;have hb := World.cells?_block hcs (by omega);obtain ⟨_, _, hc⟩ := World.cells?_some hcs;cases n with
    | zero => simp [DataW.trod] at ht
    | succ n =>
     obtain ⟨s, hr, h6, p0, p1, hw⟩ := zG n cs _ ht;refine ⟨s, by rwa [dM] at hb, ⟨.agg cs.toArray, hr, by simp [Value.cells, h6], fun j u hu => ?_⟩, p0, p1, ?_⟩
     ·simp only [Value.cells, List.getElem?_toArray] at hu;have hj : j < 6 := by
       have := (List.getElem?_eq_some_iff.1 hu).1;omega
      rw [<- gu, hc j hj, hu]
     ·have hm : (elems[i]'(by omega)).1 ∈ elems.map (·.1) := List.mem_map.2 ⟨_, List.getElem_mem _, rfl⟩;have := py hm;omega
   obtain ⟨l, hll, hl⟩ := jH hex;refine ⟨l, ?_, ?_, fun s hs => ?_⟩
   ·rw [RP, jF, hll];refine ⟨some a, cap, 6, rfl, hlc, hcm, iY fun i y hy => ?_⟩;rw [gS, List.getElem?_map] at hy;obtain ⟨s, hs, rfl⟩ := Option.map_eq_some_iff.1 hy;obtain ⟨hb, ⟨c, h1, h2, h3⟩, _⟩ := hl i s hs;exact ⟨a, c, rfl, hb, h1, h2, by simpa using h3⟩
   ·have := uT (elems.map (·.1));rw [List.length_map] at this;omega
   ·obtain ⟨i, hi, rfl⟩ := List.mem_iff_getElem.1 hs;exact (hl i _ (List.getElem?_eq_getElem hi)).2.2
end
theorem uU {H : Type} {enc : TypeId × Value -> H} {W : World} {base : Nat} {v : Value} {d : DataW H} {p : List MemPlace} (hval : Value.okWide Tryz.prog W .any base 50 v) (h : DataW.Trod enc Tryz.prog W 0 (fun _ => true) true 50 v d p) :
  ∃ l : List Stp, RP (okW W) W (.lst (gS l)) v /\ l.length <= Rows.uptoBulk d /\ ∀ s ∈ l, -9223372036854775808 <= s.pos /\ s.pos <= 9223372036854775807 /\ wt s.t <= Rows.uptoBulk d := by
 obtain ⟨a0, n, c, rfl⟩ := okWide_slice uS hval;obtain ⟨fuel, hf⟩ := h;exact wO fuel _ _ (by simpa [Value.cells] using hf)
end Go.Sl
