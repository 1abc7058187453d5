/- Rows closed: what all of the seat's statements share. -/
import Derived.Test.YtpeabfflebgamaaDoorOp
import Derived.Test.YtpeabfflebgamaaDoorCards
import Derived.Test.YtpeabfflebgamaaDoorTie
import Derived.WalkKit
import Derived.ProofKit
import Derived.OpenShut
import Derived.Deep.DeepHandedRow
import Derived.Lib.LaidTab
import Derived.SizedLaws
import Derived.Carry
import Derived.ChangeMaps5
set_option linter.unusedVariables false
set_option linter.constructorNameAsVariable false
set_option maxRecDepth 100000
namespace Go.Sl
open Go Go.Vc Go.Proofs Go.RowKit Go.ChangeShapes Go.WideShapes Go.ChangeAt
open Go.Proofs.YtpeabfflebgamaaDoor

theorem own : ownKnob Tryd.prog.godebug = none := by kernel_rfl
theorem laidOut : laidOutB Tryd.prog = true := by kernel_rfl
theorem undBool : Tryd.prog.underlying 4 = some .bool := Tryd.underlying4
/-- The tables, one behind the other. -/
theorem laidMet_tail {P : Program} {W : World} {x : String × DataW Unit} {l : List (String × DataW Unit)} (h : laidMet P (x :: l) W) : laidMet P l W := by
  obtain ⟨n, d⟩ := x
  obtain ⟨ps, ⟨g, t, cs, fuel, p, q, _, _, _, _, hr, e⟩, hn, hc⟩ := h
  subst e
  rw [List.nodup_append] at hn
  exact ⟨q, hr, hn.2.1, fun b off hm => hc b off (List.mem_append_right _ hm)⟩
theorem gPow : Tryd.prog.globalNamed "internal/strconv.uint64pow10" = some 1 := by kernel_rfl
/-- Below the old heap's end nothing has turned: the arguments read as they did. -/
theorem below_all {H : Type} {enc : TypeId × Value → H} {W W' : World} (hb : Below W.heap.size W W') {ts : List TypeId} : ∀ {vs : List Value} {ds : List (DataW H)} {ps : List MemPlace},
    (ts.all fun t => Tryd.prog.readableRec t && decide (t < Tryd.prog.types.size)) = true → DataW.TrodAll enc Tryd.prog W 0 (fun _ => true) true ts vs ds ps →
      (∀ x ∈ ps, x.block < W.heap.size) → DataW.TrodAll enc Tryd.prog W' 0 (fun b => decide (b < W.heap.size)) true ts vs ds ps := by
  induction ts with
  | nil =>
    intro vs ds ps _ h _
    obtain ⟨rfl, rfl, rfl⟩ := trodAll_nil h
    rfl
  | cons t ts ih =>
    intro vs ds ps hts h hlt
    obtain ⟨v, vs', d, ds', p, q, rfl, rfl, rfl, h1, h2⟩ := trodAll_cons h
    rw [List.all_cons, Bool.and_eq_true, Bool.and_eq_true] at hts
    exact ⟨p, q, Below.trod laidOut hts.1.1 (of_decide_eq_true hts.1.2) h1 hb fun x hx => hlt x (List.mem_append_left _ hx), ih hts.2 h2 fun x hx => hlt x (List.mem_append_right _ hx), rfl⟩
/-- A statement's end: it returned true, and wrote nothing that was there. -/
theorem post_true {H : Type} {enc : TypeId × Value → H} {fn : Func} {s : ChangeSpec} {W W' : World} {args : Array Value} {ds gs : List (DataW H)} {before : List MemPlace}
    (hres : fn.resultTypes = #[4]) (hv : s.vars = []) (hts : (fn.params.toList.all fun t => Tryd.prog.readableRec t && decide (t < Tryd.prog.types.size)) = true)
    (hs : s.fn H (ds ++ gs) = { results := [.lit (.bool true)], args := ds }) (hW : DataW.Whole enc Tryd.prog fn.params.toList s.vars false W args.toList ds gs before) (hb : Below W.heap.size W W') :
    s.post enc Tryd.prog fn false true false false W args (.bool true) W' := by
  have hlt : ∀ x ∈ before, x.block < W.heap.size := fun x hx => by simpa using hW.lt x hx
  have hW' := hW
  obtain ⟨p, q, hA, hV, rfl, _, _⟩ := hW
  rw [hv] at hV
  obtain ⟨rfl, rfl⟩ := trodVars_none hV
  refine ⟨ds, [], p ++ [], [], p, [], hW', ?_, ?_, ?_, hb.frame _, fun h => by cases h⟩
  · rw [hs, hres]
    exact trodAll_cons_mk (shut_bool undBool _) trodAll_mk0
  · rw [hs]
    exact below_all hb hts hA fun x hx => hlt x (by simpa using hx)
  · rw [hs, hv]
    rfl
theorem open_terms {H : Type} {enc : TypeId × Value → H} {W : World} {base : Nat} {v : Value} {d : DataW H} {p : List MemPlace} (hval : Value.okWide Tryd.prog W .any base 22 v) (h : DataW.Trod enc Tryd.prog W 0 (fun _ => true) true 22 v d p) :
    ∃ l : List Tm, (∀ t ∈ l, Fit t) ∧ RP (okW W) W (.lst (tmvs l)) v ∧ l.length ≤ 9223372036854775807 := by
  obtain ⟨a0, n, c, rfl⟩ := okWide_slice undTerms hval
  obtain ⟨fuel, hf⟩ := h
  exact (open_both fuel).2 _ _ (by simpa [Value.cells] using hf)
theorem agg_of {v : Value} (h : v.cells.size = 3) : v = .agg v.cells := by
  cases v <;> first | rfl | (simp [Value.cells] at h; done)
theorem open_term {H : Type} {enc : TypeId × Value → H} {W : World} {base : Nat} {v : Value} {d : DataW H} {p : List MemPlace} (hval : Value.okWide Tryd.prog W .any base 24 v) (h : DataW.Trod enc Tryd.prog W 0 (fun _ => true) true 24 v d p) :
    ∃ t : Tm, Fit t ∧ RP (okW W) W (TV t) v := by
  obtain ⟨fuel, hf⟩ := h
  obtain ⟨t, ht, hr, h3⟩ := (open_both fuel).1 _ _ hf
  refine ⟨t, ht, ?_⟩
  rw [agg_of (v := v) (by simpa using h3)]
  simpa using hr
theorem open_text {H : Type} {enc : TypeId × Value → H} {W : World} {base : Nat} {v : Value} {d : DataW H} {p : List MemPlace} (hval : Value.okWide Tryd.prog W .any base 9 v) (h : DataW.Trod enc Tryd.prog W 0 (fun _ => true) true 9 v d p) :
    ∃ s : Bs, v = .string ⟨s.toArray⟩ ∧ d = .lit (.string s) := by
  obtain ⟨s, rfl, rfl, _, _⟩ := Go.ChangeMaps.open_string undStr hval h
  exact ⟨s.data.toList, by simp, rfl⟩
theorem open_num {H : Type} {enc : TypeId × Value → H} {W : World} {base : Nat} {v : Value} {d : DataW H} {p : List MemPlace} (hval : Value.okWide Tryd.prog W .any base 3 v) (h : DataW.Trod enc Tryd.prog W 0 (fun _ => true) true 3 v d p) :
    ∃ n : Int, v = .int .i64 n ∧ -9223372036854775808 ≤ n ∧ n ≤ 9223372036854775807 := by
  obtain ⟨n, rfl, rfl, _, hw⟩ := open_int undInt hval h
  exact ⟨n, rfl, (Go.bounds_i64 hw).1, (Go.bounds_i64 hw).2⟩
/-- A contract, at a row's world. -/
theorem run_law {f : FuncId} {args : List SV} {vs : List Value} {W : World} (h : K false f args (.pv (.bool true))) (hx : X10 W) (hr : RL (okW W) (fun _ => undef) W args vs) (hk : SV.keysL args = []) :
    Calls Tryd.prog f vs.toArray W fun e W' => e = .returned (.bool true) ∧ Below W.heap.size W W' := by
  refine (h.run (okW W) (fun _ => undef) W vs ⟨⟨hx, X10_lt hx⟩, fun g L e => by cases e⟩ (fun b hb => hb) hr (fun κ => trivial) (fun κ hκ => by rw [hk] at hκ; cases hκ) (fun κ κ' hκ => by cases hκ) (fun _ => rfl)).mono ?_
  rintro e W' ⟨v, rfl, hv, hb⟩
  rw [RES, RP] at hv
  exact ⟨by rw [hv], hb⟩
def fillB (cs : Array Value) : Obj → Obj
  | .cells _ t fr => .cells cs t fr
  | o => o
/-- Worlds for the witnesses: the tables hold what their initialisers lay. -/
noncomputable def laidWorld (os : Os) : World :=
  { World.holding Tryd.prog os ⟨#[], #[], []⟩ with heap := (((World.holding Tryd.prog os ⟨#[], #[], []⟩).heap.modify 3 (fillB ([0, 1, 28, 2, 29, 14, 24, 3, 30, 22, 20, 15, 25, 17, 4, 8, 31, 27, 13, 23, 21, 19, 16, 7, 26, 12, 18, 6, 11, 5, 10, 9].map (Value.int .u8)).toArray)).modify 4 (fillB ([0, 1, 56, 2, 57, 49, 28, 3, 61, 58, 42, 50, 38, 29, 17, 4, 62, 47, 59, 36, 45, 43, 51, 22, 53, 39, 33, 30, 24, 18, 12, 5, 63, 55, 48, 27, 60, 41, 37, 16, 46, 35, 44, 21, 52, 32, 23, 11, 54, 26, 40, 15, 34, 20, 31, 10, 25, 14, 19, 9, 13, 8, 7, 6].map (Value.int .u8)).toArray)).modify 1 (fillB (Lib.pow10Tab.map (Value.int .u64)).toArray) }
noncomputable def laidWorldK (os : Os) : World :=
  { laidWorld os with heap := (laidWorld os).heap.modify 0 (fillB #[.string ⟨#[]⟩, .int .i64 0, .bool false, .string ⟨#[100]⟩, .int .i64 0, .bool true, .string ⟨#[97]⟩, .int .i64 0, .bool true, .string ⟨#[112]⟩, .int .i64 (-1), .bool false, .string ⟨#[101]⟩, .int .i64 2, .bool false, .string ⟨#[109]⟩, .int .i64 2, .bool false, .string ⟨#[104]⟩, .int .i64 1, .bool false, .string ⟨#[107]⟩, .int .i64 1, .bool true, .string ⟨#[117]⟩, .int .i64 1, .bool false, .string ⟨#[115]⟩, .int .i64 2, .bool false, .string ⟨#[120]⟩, .int .i64 2, .bool false]) }
theorem undKind : ∃ fs : Array Field, Tryd.prog.underlying 67 = some (.struct fs) ∧ fs.toList.map (fun f => (f.offset, f.type)) = [(0, 9), (1, 3), (2, 4)] := ⟨_, Tryd.underlying67, by kernel_rfl⟩
theorem cellsKind : Tryd.prog.cellsOf 67 = 3 := by kernel_rfl
theorem cellsBool : Tryd.prog.cellsOf 4 = 1 := by kernel_rfl
theorem kind_of {enc : TypeId × Value → Unit} {W : World} {sp : Nat → Bool} {held : Bool} {m : Nat} {cs : List Value} {l : List UInt8} {n : Int} {b : Bool} {p : List MemPlace}
    (h : DataW.trod enc Tryd.prog W 0 sp held m 67 cs = some (.agg [.lit (.string l), .lit (.int .i64 n), .lit (.bool b)], p)) : cs = [.string ⟨l.toArray⟩, .int .i64 n, .bool b] := by
  obtain ⟨fs, hu, hfs⟩ := undKind
  obtain ⟨xs, m', hm, hx, hlen, hxl, hget⟩ := DataW.trod_struct hu h
  rw [cellsKind] at hlen
  obtain ⟨c0, c1, c2, rfl⟩ := len3 hlen
  have hfl : fs.toList.length = 3 := by have := congrArg List.length hfs; simpa using this
  have hf3 : fs.size = 3 := (Array.length_toList (xs := fs)).symm.trans hfl
  have hfi : ∀ i (hi : i < 3) , ∃ f, fs[i]? = some f ∧ [(0, 9), (1, 3), (2, 4)][i]? = some (f.offset, f.type) := by
    intro i hi
    have : (fs.toList.map (fun f => (f.offset, f.type)))[i]? = _ := congrArg (·[i]?) hfs
    rw [List.getElem?_map] at this
    have hlt : i < fs.toList.length := by omega
    rw [List.getElem?_eq_getElem hlt] at this
    exact ⟨fs.toList[i], by simp, this.symm⟩
  have hxs : xs.map (·.1) = [.lit (.string l), .lit (.int .i64 n), .lit (.bool b)] := by
    simp only [Prod.mk.injEq, DataW.agg.injEq] at hx
    exact hx.1.symm
  have hxi : ∀ (i : Nat) (d : DataW Unit), [DataW.lit (H := Unit) (.string l), .lit (.int .i64 n), .lit (.bool b)][i]? = some d → ∃ y : List MemPlace, xs[i]? = some (d, y) := by
    intro i d hd
    rw [← hxs, List.getElem?_map] at hd
    obtain ⟨z, hz, rfl⟩ := Option.map_eq_some_iff.1 hd
    exact ⟨z.2, hz⟩
  obtain ⟨f0, g0, e0⟩ := hfi 0 (by omega)
  obtain ⟨f1, g1, e1⟩ := hfi 1 (by omega)
  obtain ⟨f2, g2, e2⟩ := hfi 2 (by omega)
  simp at e0 e1 e2
  obtain ⟨y0, k0⟩ := hxi 0 _ rfl
  obtain ⟨y1, k1⟩ := hxi 1 _ rfl
  obtain ⟨y2, k2⟩ := hxi 2 _ rfl
  have q0 := (hget 0 f0 g0).trans k0
  have q1 := (hget 1 f1 g1).trans k1
  have q2 := (hget 2 f2 g2).trans k2
  rw [← e0.1, ← e0.2, cellsStr] at q0
  rw [← e1.1, ← e1.2, cellsInt] at q1
  rw [← e2.1, ← e2.2, cellsBool] at q2
  obtain ⟨s, hs, hd0, _⟩ := DataW.trod_string undStr q0
  obtain ⟨k, hk, hd1, _⟩ := DataW.trod_int undInt q1
  obtain ⟨b', hb, hd2⟩ := DataW.trod_bool undBool q2
  simp at hs hk hb hd0 hd1 hd2
  rw [hs, hk, hb, ← hd1.1, ← hd2.1]
  have : l = s.data.toList := hd0.1
  rw [this]
theorem kinds_of {W : World} (h : laidMet Tryd.prog [("sluiceway/term.kinds", Rows.laid_sluiceway_term_kinds)] W) : RPE (okW W) W 3 kindsL (some ⟨0, 0, none⟩) 0 := by
  obtain ⟨ps, ⟨g', t', cs, fuel, p, q, hg', ht', hvar, hd, _, _⟩, _⟩ := h
  have hg : Tryd.prog.globalNamed "sluiceway/term.kinds" = some 0 := by kernel_rfl
  have ht : (Tryd.prog.globals[0]?).map (·.type) = some 68 := by kernel_rfl
  obtain rfl := Option.some.inj (hg.symm.trans hg')
  obtain rfl := Option.some.inj (ht.symm.trans ht')
  have hu : Tryd.prog.underlying 68 = some (.array 11 67) := Tryd.underlying68
  obtain ⟨xs, m, hm, hx, hlen, hxl, hget⟩ := DataW.trod_array hu hd
  rw [show Tryd.prog.cellsOf 68 = 33 by kernel_rfl] at hlen
  rw [cellsKind] at hget
  have hxs : DataW.agg (xs.map (·.1)) = Rows.laid_sluiceway_term_kinds (H := Unit) := by
    simp only [Prod.mk.injEq] at hx
    exact hx.1.symm
  refine RPE_of fun i x hi => ?_
  have hi11 : i < 11 := (List.getElem?_eq_some_iff.1 hi).1
  have key : ∀ (l : List UInt8) (n : Int) (b : Bool), x = kd l n b → (xs.map (·.1))[i]? = some (.agg [.lit (.string l), .lit (.int .i64 n), .lit (.bool b)]) → (cs.toList.drop (i * 3)).take 3 = [.string ⟨l.toArray⟩, .int .i64 n, .bool b] := by
    intro l n b _ h
    rw [List.getElem?_map] at h
    obtain ⟨z, hz, e⟩ := Option.map_eq_some_iff.1 h
    have h1 := hget i hi11
    rw [hz, show z = (z.1, z.2) from rfl, e] at h1
    exact kind_of h1
  have fin : ∀ (l : List UInt8) (n : Int) (b : Bool), x = kd l n b → (xs.map (·.1))[i]? = some (.agg [.lit (.string l), .lit (.int .i64 n), .lit (.bool b)]) → ∃ ad c, some (⟨0, 0, none⟩ : Addr) = some ad ∧ okW W ad.block ∧ RP (okW W) W x c ∧ c.cells.size = 3 ∧ ∀ j u, c.cells[j]? = some u → W.cell? (ad.add ((0 + i) * 3 + j)) = some u := by
    intro l n b hx h
    have hc := key l n b hx h
    subst hx
    have hcell : ∀ j u, [Value.string ⟨l.toArray⟩, .int .i64 n, .bool b][j]? = some u → W.cell? ⟨0, i * 3 + j, none⟩ = some u := by
      intro j u hj
      rw [← hc] at hj
      have h5 := getElem?_sub hj
      have := World.var?_cell hg hvar (i * 3 + j)
      rw [this]
      simpa using h5
    refine ⟨_, .agg #[.string ⟨l.toArray⟩, .int .i64 n, .bool b], rfl, ?_, ?_, rfl, fun j u hj => ?_⟩
    · exact World.block_lt_of_cell? W ⟨0, i * 3 + 0, none⟩ (hcell 0 _ rfl)
    · rw [kd, RP]
      refine ⟨_, rfl, ?_, by rw [RP], by rw [RP], by rw [RP], trivial⟩
      intro u hu
      simp at hu
      rcases hu with rfl | rfl | rfl <;> rfl
    · rw [Vc.add_plain, Nat.zero_add, Nat.zero_add]
      exact hcell j u (by simpa [Value.cells] using hj)
  have hxs' : xs.map (·.1) = _ := DataW.agg.inj hxs
  rw [hxs'] at fin
  match i, hi11, hi with
  | 0, _, hi => cases hi; exact fin _ _ _ rfl rfl
  | 1, _, hi => cases hi; exact fin _ _ _ rfl rfl
  | 2, _, hi => cases hi; exact fin _ _ _ rfl rfl
  | 3, _, hi => cases hi; exact fin _ _ _ rfl rfl
  | 4, _, hi => cases hi; exact fin _ _ _ rfl rfl
  | 5, _, hi => cases hi; exact fin _ _ _ rfl rfl
  | 6, _, hi => cases hi; exact fin _ _ _ rfl rfl
  | 7, _, hi => cases hi; exact fin _ _ _ rfl rfl
  | 8, _, hi => cases hi; exact fin _ _ _ rfl rfl
  | 9, _, hi => cases hi; exact fin _ _ _ rfl rfl
  | 10, _, hi => cases hi; exact fin _ _ _ rfl rfl
theorem run_lawK {f : FuncId} {args : List SV} {vs : List Value} {W : World} (h : K true f args (.pv (.bool true))) (hx : X10 W) (hk : RPE (okW W) W 3 kindsL (some ⟨0, 0, none⟩) 0) (hr : RL (okW W) (fun _ => undef) W args vs) (hkk : SV.keysL args = []) :
    Calls Tryd.prog f vs.toArray W fun e W' => e = .returned (.bool true) ∧ Below W.heap.size W W' := by
  refine (h.run (okW W) (fun _ => undef) W vs ⟨⟨hx, X10_lt hx⟩, fun g L e => ?_⟩ (fun b hb => hb) hr (fun κ => trivial) (fun κ hκ => by rw [hkk] at hκ; cases hκ) (fun κ κ' hκ => by cases hκ) (fun _ => rfl)).mono ?_
  · have e : (if g = 0 then some kindsL else none) = some L := by rw [← beq_ite]; exact e
    split at e
    · rename_i hgg
      subst hgg
      cases e
      exact ⟨3, hk⟩
    · cases e
  rintro e W' ⟨v, rfl, hv, hb⟩
  rw [RES, RP] at hv
  exact ⟨by rw [hv], hb⟩
end Go.Sl
