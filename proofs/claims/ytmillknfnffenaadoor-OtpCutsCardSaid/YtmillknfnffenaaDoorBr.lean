/- Rows closed: what the statements of codes share. -/
import Derived.Test.YtmillknfnffenaaDoorBa
import Derived.Test.YtmillknfnffenaaDoorCards
import Derived.Test.YtmillknfnffenaaDoorTie
import Derived.WalkKit
import Derived.ProofKit
import Derived.OpenShut
import Derived.Deep.DeepHandedRow
import Derived.Lib.LaidTab
import Derived.SizedLaws
import Derived.Carry
import Derived.ChangeMaps5
import Derived.ChangeSlices
set_option linter.unusedVariables false
set_option linter.constructorNameAsVariable false
set_option maxRecDepth 100000
namespace Go.So
open Go Go.Vc Go.Proofs Go.RowKit Go.ChangeShapes Go.WideShapes Go.ChangeAt
open Go.Proofs.YtmillknfnffenaaDoor

abbrev okW (W : World) : Nat → Prop := fun b => b < W.heap.size
theorem undStr : Tryd.prog.underlying 9 = some .string := Tryd.underlying9
theorem undInt : Tryd.prog.underlying 3 = some (.int .i64) := Tryd.underlying3
theorem undU8 : Tryd.prog.underlying 5 = some (.int .u8) := Tryd.underlying5
theorem undBytes : Tryd.prog.underlying 22 = some (.slice 5) := Tryd.underlying22
theorem cellsU8 : Tryd.prog.cellsOf 5 = 1 := by kernel_rfl
theorem bytesU8 : Tryd.prog.bytesOf 5 = 1 := by kernel_rfl
theorem own : ownKnob Tryd.prog.godebug = none := by kernel_rfl
theorem laidOut : laidOutB Tryd.prog = true := by kernel_rfl
theorem undBool : Tryd.prog.underlying 4 = some .bool := Tryd.underlying4
/-- The tables, one behind the other. -/
theorem laidMet_tail {P : Program} {W : World} {x : String × DataW Unit} {l : List (String × DataW Unit)} (h : laidMet P (x :: l) W) : laidMet P l W := by
  obtain ⟨n, d⟩ := x
  obtain ⟨ps, ⟨g, t, cs, fuel, p, q, _, _, _, _, hr, e⟩, hn, hc⟩ := h
  subst e
  rw [List.nodup_append] at hn
  exact ⟨q, hr, hn.2.1, fun b off hm => hc b off (List.mem_append_right _ hm)⟩
theorem gPow : Tryd.prog.globalNamed "internal/strconv.uint64pow10" = some 0 := by kernel_rfl
/-- Below the old heap's end nothing has turned: the arguments read as they did. -/
theorem below_all {H : Type} {enc : TypeId × Value → H} {W W' : World} (hb : Below W.heap.size W W') {ts : List TypeId} : ∀ {vs : List Value} {ds : List (DataW H)} {ps : List MemPlace},
    (ts.all fun t => Tryd.prog.readableRec t && decide (t < Tryd.prog.types.size)) = true → DataW.TrodAll enc Tryd.prog W 0 (fun _ => true) true ts vs ds ps →
      (∀ x ∈ ps, x.block < W.heap.size) → DataW.TrodAll enc Tryd.prog W' 0 (fun b => decide (b < W.heap.size)) true ts vs ds ps := by
  induction ts with
  | nil =>
    intro vs ds ps _ h _
    obtain ⟨rfl, rfl, rfl⟩ := trodAll_nil h
    rfl
  | cons t ts ih =>
    intro vs ds ps hts h hlt
    obtain ⟨v, vs', d, ds', p, q, rfl, rfl, rfl, h1, h2⟩ := trodAll_cons h
    rw [List.all_cons, Bool.and_eq_true, Bool.and_eq_true] at hts
    exact ⟨p, q, Below.trod laidOut hts.1.1 (of_decide_eq_true hts.1.2) h1 hb fun x hx => hlt x (List.mem_append_left _ hx), ih hts.2 h2 fun x hx => hlt x (List.mem_append_right _ hx), rfl⟩
/-- A statement's end: it returned true, and wrote nothing that was there. -/
theorem post_true {H : Type} {enc : TypeId × Value → H} {fn : Func} {s : ChangeSpec} {W W' : World} {args : Array Value} {ds gs : List (DataW H)} {before : List MemPlace}
    (hres : fn.resultTypes = #[4]) (hv : s.vars = []) (hts : (fn.params.toList.all fun t => Tryd.prog.readableRec t && decide (t < Tryd.prog.types.size)) = true)
    (hs : s.fn H (ds ++ gs) = { results := [.lit (.bool true)], args := ds }) (hW : DataW.Whole enc Tryd.prog fn.params.toList s.vars false W args.toList ds gs before) (hb : Below W.heap.size W W') :
    s.post enc Tryd.prog fn false true false false W args (.bool true) W' := by
  have hlt : ∀ x ∈ before, x.block < W.heap.size := fun x hx => by simpa using hW.lt x hx
  have hW' := hW
  obtain ⟨p, q, hA, hV, rfl, _, _⟩ := hW
  rw [hv] at hV
  obtain ⟨rfl, rfl⟩ := trodVars_none hV
  refine ⟨ds, [], p ++ [], [], p, [], hW', ?_, ?_, ?_, hb.frame _, fun h => by cases h⟩
  · rw [hs, hres]
    exact trodAll_cons_mk (shut_bool undBool _) trodAll_mk0
  · rw [hs]
    exact below_all hb hts hA fun x hx => hlt x (by simpa using hx)
  · rw [hs, hv]
    rfl
theorem open_text {H : Type} {enc : TypeId × Value → H} {W : World} {base : Nat} {v : Value} {d : DataW H} {p : List MemPlace} (hval : Value.okWide Tryd.prog W .any base 9 v) (h : DataW.Trod enc Tryd.prog W 0 (fun _ => true) true 9 v d p) :
    ∃ s : List UInt8, v = .string ⟨s.toArray⟩ ∧ d = .lit (.string s) := by
  obtain ⟨s, rfl, rfl, _, _⟩ := Go.ChangeMaps.open_string undStr hval h
  exact ⟨s.data.toList, by simp, rfl⟩
theorem open_num {H : Type} {enc : TypeId × Value → H} {W : World} {base : Nat} {v : Value} {d : DataW H} {p : List MemPlace} (hval : Value.okWide Tryd.prog W .any base 3 v) (h : DataW.Trod enc Tryd.prog W 0 (fun _ => true) true 3 v d p) :
    ∃ n : Int, v = .int .i64 n ∧ -9223372036854775808 ≤ n ∧ n ≤ 9223372036854775807 := by
  obtain ⟨n, rfl, rfl, _, hw⟩ := open_int undInt hval h
  exact ⟨n, rfl, (Go.bounds_i64 hw).1, (Go.bounds_i64 hw).2⟩
theorem open_byte {H : Type} {enc : TypeId × Value → H} {W : World} {base : Nat} {v : Value} {d : DataW H} {p : List MemPlace} (hval : Value.okWide Tryd.prog W .any base 5 v) (h : DataW.Trod enc Tryd.prog W 0 (fun _ => true) true 5 v d p) :
    ∃ n : UInt8, v = .int .u8 ((n.toNat : Nat) : Int) := by
  obtain ⟨n, rfl, rfl, _, hw⟩ := open_int undU8 hval h
  have hw : 0 ≤ n ∧ n ≤ 255 := by
    simp only [Lit.wf, IntKind.min, IntKind.max, IntKind.signed, IntKind.bits] at hw
    simpa using hw
  refine ⟨UInt8.ofNat n.toNat, ?_⟩
  rw [UInt8.toNat_ofNat', Nat.mod_eq_of_lt (show n.toNat < 2 ^ 8 by omega)]
  congr 1
  omega
theorem open_bytes {H : Type} {enc : TypeId × Value → H} {W : World} {base : Nat} {v : Value} {d : DataW H} {p : List MemPlace} (hval : Value.okWide Tryd.prog W .any base 22 v) (h : DataW.Trod enc Tryd.prog W 0 (fun _ => true) true 22 v d p) :
    ∃ l : List UInt8, RP (okW W) W (.lst (bytesL l)) v ∧ (∀ {ts : List TypeId} {ds : List (DataW H)} {j : Nat}, (DataW.weightsEach Tryd.prog ts ds).all (· ≤ reachBytes) = true → ts[j]? = some 22 → ds[j]? = some d → l.length ≤ 140737488351232) := by
  obtain ⟨a0, n, c, rfl⟩ := okWide_slice undBytes hval
  obtain ⟨fuel, hf⟩ := h
  rcases open_ints undBytes undU8 cellsU8 hf with ⟨hv, _⟩ | ⟨a, len, cap, zs, hv, _, hlc, hcm, hzl, hd, hget, hwf⟩
  · simp [Value.cells] at hv
    obtain ⟨rfl, rfl, rfl⟩ := hv
    refine ⟨[], ?_, fun _ _ _ => Nat.zero_le _⟩
    rw [RP]
    exact ⟨none, 0, 1, rfl, Nat.le_refl _, by simp [maxLen], trivial⟩
  · simp [Value.cells] at hv
    obtain ⟨rfl, rfl, rfl⟩ := hv
    have hle : n ≤ zs.length := by rw [hzl]; split <;> omega
    have hzb : ∀ i, i < zs.length → 0 ≤ zs.getD i 0 ∧ zs.getD i 0 ≤ 255 := by
      intro i hi
      rw [List.getD_eq_getElem?_getD, List.getElem?_eq_getElem hi]
      have hw := hwf _ (List.getElem_mem hi)
      simp only [Lit.wf, IntKind.min, IntKind.max, IntKind.signed, IntKind.bits] at hw
      simpa using hw
    obtain ⟨l, hl⟩ : ∃ l : List UInt8, l = (List.range n).map fun i => UInt8.ofNat (zs.getD i 0).toNat := ⟨_, rfl⟩
    have hll : l.length = n := by rw [hl, List.length_map, List.length_range]
    have hbl : (bytesL l).length = n := by unfold bytesL; rw [List.length_map, hll]
    refine ⟨l, ?_, fun {ts ds j} hsz ht hdd => ?_⟩
    · rw [RP, hbl]
      refine ⟨some a, c, 1, rfl, hlc, hcm, RPE_of fun i x hx => ?_⟩
      have hi : i < n := by rw [← hbl]; exact (List.getElem?_eq_some_iff.1 hx).1
      have hx2 : x = .int .u8 (((UInt8.ofNat (zs.getD i 0).toNat).toNat : Nat) : Int) := by
        unfold bytesL at hx
        rw [List.getElem?_map, hl, List.getElem?_map, List.getElem?_range hi] at hx
        exact (Option.some.inj hx).symm
      have hz := hzb i (by omega)
      have hcell := hget i (by omega)
      have hval : (((UInt8.ofNat (zs.getD i 0).toNat).toNat : Nat) : Int) = zs.getD i 0 := by
        rw [UInt8.toNat_ofNat', Nat.mod_eq_of_lt (show (zs.getD i 0).toNat < 2 ^ 8 by omega)]
        omega
      refine ⟨a, .int .u8 (zs.getD i 0), rfl, ?_, by rw [hx2, RP, hval], by simp [Value.cells], fun j u hu => ?_⟩
      · have := World.block_lt_of_cell? W _ hcell
        rwa [Vc.add_block] at this
      · simp only [Value.cells] at hu
        have hj : j = 0 := by
          have := (Array.getElem?_eq_some_iff.1 hu).1
          simp at this; exact this
        subst hj
        simp at hu
        rw [← hu]
        simpa using hcell
    · obtain ⟨hd, _⟩ := Prod.mk.inj hd
      rw [hd] at hdd
      have := sized_slice (e := 5) hsz ht hdd undBytes
      rw [bytesU8, Nat.mul_one] at this
      have e : (lits (H := H) .u8 (zs.take n)).length = n := by simp [lits]; omega
      rw [e] at this
      have hr : reachBytes = 140737488351232 := rfl
      omega
/-- A contract, at a row's world. -/
theorem run_lawO {f : FuncId} {args : List SV} {vs : List Value} {W : World} (h : K f args (.pv (.bool true))) (hx : X10 W) (hr : RL (okW W) (fun _ => undef) W args vs) (hk : SV.keysL args = []) :
    Calls Tryd.prog f vs.toArray W fun e W' => e = .returned (.bool true) ∧ Below W.heap.size W W' := by
  refine (h.run (okW W) (fun _ => undef) W vs ⟨⟨hx, X10_lt hx⟩, fun g L e => by cases e⟩ (fun b hb => hb) hr (fun κ => trivial) (fun κ hκ => by rw [hk] at hκ; cases hκ) (fun κ κ' hκ => by cases hκ) (fun _ => rfl)).mono ?_
  rintro e W' ⟨v, rfl, hv, hb⟩
  rw [RES, RP] at hv
  exact ⟨by rw [hv], hb⟩
def fillB (cs : Array Value) : Obj → Obj
  | .cells _ t fr => .cells cs t fr
  | o => o
/-- Worlds for the witnesses: the tables hold what their initialisers lay. -/
noncomputable def laidWorld (os : Os) : World :=
  { World.holding Tryd.prog os ⟨#[], #[], []⟩ with heap := (((World.holding Tryd.prog os ⟨#[], #[], []⟩).heap.modify 2 (fillB ([0, 1, 28, 2, 29, 14, 24, 3, 30, 22, 20, 15, 25, 17, 4, 8, 31, 27, 13, 23, 21, 19, 16, 7, 26, 12, 18, 6, 11, 5, 10, 9].map (Value.int .u8)).toArray)).modify 3 (fillB ([0, 1, 56, 2, 57, 49, 28, 3, 61, 58, 42, 50, 38, 29, 17, 4, 62, 47, 59, 36, 45, 43, 51, 22, 53, 39, 33, 30, 24, 18, 12, 5, 63, 55, 48, 27, 60, 41, 37, 16, 46, 35, 44, 21, 52, 32, 23, 11, 54, 26, 40, 15, 34, 20, 31, 10, 25, 14, 19, 9, 13, 8, 7, 6].map (Value.int .u8)).toArray)).modify 0 (fillB (Lib.pow10Tab.map (Value.int .u64)).toArray) }
end Go.So
