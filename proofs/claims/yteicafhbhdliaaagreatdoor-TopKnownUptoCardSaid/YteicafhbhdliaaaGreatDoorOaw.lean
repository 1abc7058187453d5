/- Part 23 of the proof: Rzk. -/
import Derived.Test.YteicafhbhdliaaaGreatDoorOav
set_option linter.constructorNameAsVariable false
set_option linter.unusedSimpArgs false
set_option linter.unusedVariables false
set_option maxRecDepth 100000
namespace Go.Proofs.YteicafhbhdliaaaGreatDoor.topKnown
open Go Go.Vc Go.Sl Go.Proofs Go.RowKit Go.ChangeShapes Go.WideShapes Go.ChangeAt
theorem contract (H : Type) (enc : TypeId × Value -> H) (W : World) (base : Nat) (args : Array Value) (ds gs : List (DataW H)) (before : List MemPlace)
  (hval : ∀ (j : Nat) t v, Tryz.f4.params[j]? = some t -> args[j]? = some v -> Value.okWide Tryz.prog W .any base t v)
  (hW : DataW.Whole enc Tryz.prog Tryz.f4.params.toList Rows.topKnownSpec.vars false W args.toList ds gs before) (hL : laidMetH Tryz.prog Rows.topKnownUptoRow.laid W)
  (hsz : (DataW.weightsEach Tryz.prog (Tryz.f4.params.toList ++ (Rows.OpenSpec.upto Rows.topKnownSpec).bare.plain.varTypes Tryz.prog) (ds ++ gs)).all (· <= reachBytes) = true) (hk : Rows.uptoSmall H (ds ++ gs) = true) :
  Calls Tryz.prog 4 args W fun e W' => ∃ v, e = .returned v /\ Rows.topKnownSpec.post enc Tryz.prog Tryz.f4 false true false false W args v W' := by
 have hW' := hW;obtain ⟨p, q, hA0, hV, rfl, _, _⟩ := hW;have hA : DataW.TrodAll enc Tryz.prog W 0 (fun _ => true) true [50, 26] args.toList ds p := hA0;have hval : ∀ (j : Nat) t v, #[50, 26][j]? = some t -> args[j]? = some v -> Value.okWide Tryz.prog W .any base t v := hval;obtain ⟨rfl, rfl⟩ := trodVars_none hV;obtain ⟨v0, vs0, d0, ds0, p0, q0, hargs, rfl, rfl, g0, r0⟩ := trodAll_cons hA;obtain ⟨v1, vs1, d1, ds1, p1, q1, rfl, rfl, rfl, g1, r1⟩ := trodAll_cons r0;obtain ⟨rfl, rfl, rfl⟩ := trodAll_nil r1;obtain rfl : args = #[v0, v1] := by cases args; simp_all
 obtain ⟨x0, hr0, hl0, hs0⟩ := uU (hval 0 _ v0 rfl rfl) g0;obtain ⟨x1, hf1, hr1, hb1⟩ := wM (hval 1 _ v1 rfl rfl) g1;have hbk := of_decide_eq_true hk;simp only [List.append_nil, Rows.uptoBulkAll, Rows.uptoBulk] at hbk;refine (C6 (uP x0 x1 (fun s hs => ⟨(hs0 s hs).1, (hs0 s hs).2.1, by have := (hs0 s hs).2.2; omega⟩) (by omega) hf1 (by omega)) (H6 hL) (vs := [v0, v1]) ⟨hr0, ⟨hr1, trivial⟩⟩ rfl).mono ?_
 rintro e W' ⟨rfl, hb⟩
 exact ⟨_, rfl, zD rfl rfl (by kernel_rfl) rfl hW' hb⟩
theorem laid_met (os : Os) : laidMet Tryz.prog Rows.topKnownUptoRow.laid ((kJ os).forCall (fun _ _ => 0) ⟨#[], #[.slice none 0 0, .agg #[.int .i64 0, .string ⟨#[]⟩, .slice none 0 0]], []⟩).memory :=
 laidMet_of_run' 8 (by kernel_rfl) (by kernel_rfl)
theorem reads (os : Os) {H : Type} (enc : TypeId × Value -> H) : ∃ places, DataW.whole enc Tryz.prog ((kJ os).forCall (fun _ _ => 0) ⟨#[], #[.slice none 0 0, .agg #[.int .i64 0, .string ⟨#[]⟩, .slice none 0 0]], []⟩).memory Tryz.f4.params.toList Rows.topKnownSpec.vars false (#[Value.slice none 0 0, .agg #[.int .i64 0, .string ⟨#[]⟩, .slice none 0 0]] : Array Value).toList 8 = some ([.nil, .agg [.lit (.int .i64 0), .lit (.string []), .nil]], [], places) :=
 ⟨[], by kernel_rfl⟩
theorem lifted (os : Os) (started : os.Started) (H : Type) (enc : TypeId × Value -> H) (F : Stop.Interp) :
  ReturnsInHanded {} Tryz.checked os 4 .any ((Rows.OpenSpec.upto Rows.topKnownSpec).preRow enc Tryz.prog Tryz.f4 Rows.topKnownUptoRow.domain false Rows.topKnownUptoRow.laid) (((Rows.OpenSpec.upto Rows.topKnownSpec).at F).post enc Tryz.prog Tryz.f4 false true false false) := by
 obtain ⟨places, hx⟩ := reads os enc;refine returnsInHanded_of_row (C := Tryz.checked) (s := (Rows.OpenSpec.upto Rows.topKnownSpec)) own started (by kernel_rfl) Tryz.func4
  (witness_row_at (enc := enc) (C := Tryz.checked) false (kJ os) #[.slice none 0 0, .agg #[.int .i64 0, .string ⟨#[]⟩, .slice none 0 0]] rfl (by kernel_rfl) (by kernel_rfl) (by kernel_rfl)
   (OpenSpec.preRow_of_cond 8 hx (by kernel_rfl) (fun k hk => by cases hk; kernel_rfl) (by kernel_rfl) (laid_met os))) ?_
 intro W base args ds gs before hval hW _ hcond hsz hL _ _;exact contract H enc W base args ds gs before hval hW hL hsz (hcond _ rfl)
set_option maxHeartbeats 20000000 in
theorem closed : joinedFacts Tryz.pinned.checked.prog 4 Tryz.f4 (Rows.OpenSpec.upto Rows.topKnownSpec).bare Rows.topKnownUptoRow = true := by
 unfold joinedFacts;simp only [Bool.and_eq_true]
 repeat' refine And.intro ?_ ?_
 all_goals (as_aux_lemma => kernel_rfl)
theorem said : Rows.TopKnownUptoSaid :=
 OpenClaim.holds_of_cond 4 Tryz.f4 rfl rfl rfl rfl rfl rfl rfl ⟨rfl, rfl, rfl, rfl, rfl⟩ rfl rfl rfl rfl rfl (by kernel_rfl) Tryz.func4 closed
  (of_decide_eq_true (by kernel_rfl)) (by unfold Func.isWrapper; first | (rw [if_pos (by decide +kernel)]; kernel_rfl) | (rw [if_neg (by decide +kernel)]; exact ⟨rfl, rfl⟩))
  (fun os started H enc _ F => by rw [OpenClaim.pre_eq_preRow]; exact lifted os started H enc F)
theorem plain (f : FuncId) (fn : Func) (hf : Tryz.pinned.checked.prog.funcNamed "sluiceway/sluicewaytop.TopKnown" = some f) (hfn : Tryz.pinned.checked.prog.funcs[f]? = some fn) :
  true = Tryz.pinned.checked.prog.looks [] /\ ∀ (j : Nat) t, fn.params[j]? = some t -> Tryz.pinned.checked.prog.wantsStandIn t = false := by
 obtain rfl : f = 4 := Option.some.inj ((show Tryz.prog.funcNamed "sluiceway/sluicewaytop.TopKnown" = some 4 by kernel_rfl).symm.trans hf) |>.symm
 obtain rfl : fn = Tryz.f4 := (Option.some.inj (Tryz.func4.symm.trans hfn)).symm;refine ⟨by kernel_rfl, fun j t ht => ?_⟩;have ht : (#[50, 26] : Array TypeId)[j]? = some t := ht;have hm := Array.mem_of_getElem? ht;have hall : ∀ t ∈ (#[50, 26] : Array TypeId), Tryz.prog.wantsStandIn t = false := by
  intro t ht;simp only [List.mem_toArray, List.mem_cons, List.not_mem_nil, or_false] at ht;rcases ht with rfl | rfl <;> kernel_rfl
 exact hall t hm
theorem card : Rows.TopKnownUptoCardSaid :=
 Claim7.holds_tied_plain_at .later [] _ _ _ _ said (fun _ h => by cases h) (by kernel_rfl) (fun _ h => by cases h) topKnownUpto_row_tie rfl ⟨rfl, rfl⟩ (by kernel_rfl) rfl plain (by kernel_rfl)
end Go.Proofs.YteicafhbhdliaaaGreatDoor.topKnown
