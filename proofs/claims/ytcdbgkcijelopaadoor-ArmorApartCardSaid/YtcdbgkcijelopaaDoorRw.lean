/- Rows closed: what all of the seat's statements share. -/
import Derived.Test.YtcdbgkcijelopaaDoorOp
import Derived.Test.YtcdbgkcijelopaaDoorCards
import Derived.Test.YtcdbgkcijelopaaDoorTie
import Derived.WalkKit
import Derived.ProofKit
import Derived.OpenShut
import Derived.Deep.DeepHandedRow
import Derived.Lib.LaidTab
import Derived.SizedLaws
import Derived.Carry
import Derived.ChangeMaps5
set_option linter.unusedVariables false
set_option linter.constructorNameAsVariable false
set_option maxRecDepth 100000
namespace Go.Sl
open Go Go.Vc Go.Proofs Go.RowKit Go.ChangeShapes Go.WideShapes Go.ChangeAt
open Go.Proofs.YtcdbgkcijelopaaDoor

theorem own : ownKnob Tryd.prog.godebug = none := by kernel_rfl
theorem laidOut : laidOutB Tryd.prog = true := by kernel_rfl
theorem undBool : Tryd.prog.underlying 4 = some .bool := Tryd.underlying4
/-- The tables, one behind the other. -/
theorem laidMet_tail {P : Program} {W : World} {x : String × DataW Unit} {l : List (String × DataW Unit)} (h : laidMet P (x :: l) W) : laidMet P l W := by
  obtain ⟨n, d⟩ := x
  obtain ⟨ps, ⟨g, t, cs, fuel, p, q, _, _, _, _, hr, e⟩, hn, hc⟩ := h
  subst e
  rw [List.nodup_append] at hn
  exact ⟨q, hr, hn.2.1, fun b off hm => hc b off (List.mem_append_right _ hm)⟩
theorem gPow : Tryd.prog.globalNamed "internal/strconv.uint64pow10" = some 1 := by kernel_rfl
/-- Below the old heap's end nothing has turned: the arguments read as they did. -/
theorem below_all {H : Type} {enc : TypeId × Value → H} {W W' : World} (hb : Below W.heap.size W W') {ts : List TypeId} : ∀ {vs : List Value} {ds : List (DataW H)} {ps : List MemPlace},
    (ts.all fun t => Tryd.prog.readableRec t && decide (t < Tryd.prog.types.size)) = true → DataW.TrodAll enc Tryd.prog W 0 (fun _ => true) true ts vs ds ps →
      (∀ x ∈ ps, x.block < W.heap.size) → DataW.TrodAll enc Tryd.prog W' 0 (fun b => decide (b < W.heap.size)) true ts vs ds ps := by
  induction ts with
  | nil =>
    intro vs ds ps _ h _
    obtain ⟨rfl, rfl, rfl⟩ := trodAll_nil h
    rfl
  | cons t ts ih =>
    intro vs ds ps hts h hlt
    obtain ⟨v, vs', d, ds', p, q, rfl, rfl, rfl, h1, h2⟩ := trodAll_cons h
    rw [List.all_cons, Bool.and_eq_true, Bool.and_eq_true] at hts
    exact ⟨p, q, Below.trod laidOut hts.1.1 (of_decide_eq_true hts.1.2) h1 hb fun x hx => hlt x (List.mem_append_left _ hx), ih hts.2 h2 fun x hx => hlt x (List.mem_append_right _ hx), rfl⟩
/-- A statement's end: it returned true, and wrote nothing that was there. -/
theorem post_true {H : Type} {enc : TypeId × Value → H} {fn : Func} {s : ChangeSpec} {W W' : World} {args : Array Value} {ds gs : List (DataW H)} {before : List MemPlace}
    (hres : fn.resultTypes = #[4]) (hv : s.vars = []) (hts : (fn.params.toList.all fun t => Tryd.prog.readableRec t && decide (t < Tryd.prog.types.size)) = true)
    (hs : s.fn H (ds ++ gs) = { results := [.lit (.bool true)], args := ds }) (hW : DataW.Whole enc Tryd.prog fn.params.toList s.vars false W args.toList ds gs before) (hb : Below W.heap.size W W') :
    s.post enc Tryd.prog fn false true false false W args (.bool true) W' := by
  have hlt : ∀ x ∈ before, x.block < W.heap.size := fun x hx => by simpa using hW.lt x hx
  have hW' := hW
  obtain ⟨p, q, hA, hV, rfl, _, _⟩ := hW
  rw [hv] at hV
  obtain ⟨rfl, rfl⟩ := trodVars_none hV
  refine ⟨ds, [], p ++ [], [], p, [], hW', ?_, ?_, ?_, hb.frame _, fun h => by cases h⟩
  · rw [hs, hres]
    exact trodAll_cons_mk (shut_bool undBool _) trodAll_mk0
  · rw [hs]
    exact below_all hb hts hA fun x hx => hlt x (by simpa using hx)
  · rw [hs, hv]
    rfl
theorem open_terms {H : Type} {enc : TypeId × Value → H} {W : World} {base : Nat} {v : Value} {d : DataW H} {p : List MemPlace} (hval : Value.okWide Tryd.prog W .any base 22 v) (h : DataW.Trod enc Tryd.prog W 0 (fun _ => true) true 22 v d p) :
    ∃ l : List Tm, (∀ t ∈ l, Fit t) ∧ RP (okW W) W (.lst (tmvs l)) v ∧ l.length ≤ 9223372036854775807 := by
  obtain ⟨a0, n, c, rfl⟩ := okWide_slice undTerms hval
  obtain ⟨fuel, hf⟩ := h
  exact (open_both fuel).2 _ _ (by simpa [Value.cells] using hf)
theorem agg_of {v : Value} (h : v.cells.size = 3) : v = .agg v.cells := by
  cases v <;> first | rfl | (simp [Value.cells] at h; done)
theorem open_term {H : Type} {enc : TypeId × Value → H} {W : World} {base : Nat} {v : Value} {d : DataW H} {p : List MemPlace} (hval : Value.okWide Tryd.prog W .any base 25 v) (h : DataW.Trod enc Tryd.prog W 0 (fun _ => true) true 25 v d p) :
    ∃ t : Tm, Fit t ∧ RP (okW W) W (TV t) v := by
  obtain ⟨fuel, hf⟩ := h
  obtain ⟨t, ht, hr, h3⟩ := (open_both fuel).1 _ _ hf
  refine ⟨t, ht, ?_⟩
  rw [agg_of (v := v) (by simpa using h3)]
  simpa using hr
theorem open_text {H : Type} {enc : TypeId × Value → H} {W : World} {base : Nat} {v : Value} {d : DataW H} {p : List MemPlace} (hval : Value.okWide Tryd.prog W .any base 9 v) (h : DataW.Trod enc Tryd.prog W 0 (fun _ => true) true 9 v d p) :
    ∃ s : Bs, v = .string ⟨s.toArray⟩ ∧ d = .lit (.string s) := by
  obtain ⟨s, rfl, rfl, _, _⟩ := Go.ChangeMaps.open_string undStr hval h
  exact ⟨s.data.toList, by simp, rfl⟩
theorem open_num {H : Type} {enc : TypeId × Value → H} {W : World} {base : Nat} {v : Value} {d : DataW H} {p : List MemPlace} (hval : Value.okWide Tryd.prog W .any base 3 v) (h : DataW.Trod enc Tryd.prog W 0 (fun _ => true) true 3 v d p) :
    ∃ n : Int, v = .int .i64 n ∧ -9223372036854775808 ≤ n ∧ n ≤ 9223372036854775807 := by
  obtain ⟨n, rfl, rfl, _, hw⟩ := open_int undInt hval h
  exact ⟨n, rfl, (Go.bounds_i64 hw).1, (Go.bounds_i64 hw).2⟩
/-- A contract, at a row's world. -/
theorem run_law {f : FuncId} {args : List SV} {vs : List Value} {W : World} (h : K false f args (.pv (.bool true))) (hx : X10 W) (hr : RL (okW W) (fun _ => undef) W args vs) (hk : SV.keysL args = []) :
    Calls Tryd.prog f vs.toArray W fun e W' => e = .returned (.bool true) ∧ Below W.heap.size W W' := by
  refine (h.run (okW W) (fun _ => undef) W vs ⟨hx, fun g L e => by cases e⟩ (fun b hb => hb) hr (fun κ => trivial) (fun κ hκ => by rw [hk] at hκ; cases hκ) (fun κ κ' hκ => by cases hκ) (fun _ _ _ _ => by simp) (fun _ _ _ => by simp)).mono ?_
  rintro e W' ⟨v, rfl, hv, hb⟩
  rw [RES, RP] at hv
  exact ⟨by rw [hv], hb⟩
def fillB (cs : Array Value) : Obj → Obj
  | .cells _ t fr => .cells cs t fr
  | o => o
/-- Worlds for the witnesses: the tables hold what their initialisers lay. -/
noncomputable def laidWorld (os : Os) : World :=
  { World.holding Tryd.prog os ⟨#[], #[], []⟩ with heap := (((World.holding Tryd.prog os ⟨#[], #[], []⟩).heap.modify 3 (fillB ([0, 1, 28, 2, 29, 14, 24, 3, 30, 22, 20, 15, 25, 17, 4, 8, 31, 27, 13, 23, 21, 19, 16, 7, 26, 12, 18, 6, 11, 5, 10, 9].map (Value.int .u8)).toArray)).modify 4 (fillB ([0, 1, 56, 2, 57, 49, 28, 3, 61, 58, 42, 50, 38, 29, 17, 4, 62, 47, 59, 36, 45, 43, 51, 22, 53, 39, 33, 30, 24, 18, 12, 5, 63, 55, 48, 27, 60, 41, 37, 16, 46, 35, 44, 21, 52, 32, 23, 11, 54, 26, 40, 15, 34, 20, 31, 10, 25, 14, 19, 9, 13, 8, 7, 6].map (Value.int .u8)).toArray)).modify 1 (fillB (Lib.pow10Tab.map (Value.int .u64)).toArray) }
noncomputable def laidWorldK (os : Os) : World :=
  { laidWorld os with heap := (laidWorld os).heap.modify 0 (fillB #[.string ⟨#[]⟩, .int .i64 0, .bool false, .string ⟨#[100]⟩, .int .i64 0, .bool true, .string ⟨#[97]⟩, .int .i64 0, .bool true, .string ⟨#[112]⟩, .int .i64 (-1), .bool false, .string ⟨#[101]⟩, .int .i64 2, .bool false, .string ⟨#[109]⟩, .int .i64 2, .bool false, .string ⟨#[104]⟩, .int .i64 1, .bool false, .string ⟨#[107]⟩, .int .i64 1, .bool true, .string ⟨#[117]⟩, .int .i64 1, .bool false, .string ⟨#[115]⟩, .int .i64 2, .bool false, .string ⟨#[120]⟩, .int .i64 2, .bool false]) }
end Go.Sl
