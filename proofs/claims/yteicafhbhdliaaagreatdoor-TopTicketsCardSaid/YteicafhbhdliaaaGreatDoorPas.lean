/- The statement TopTickets, without a condition: a ticket of one KDC is none of another one's. Part 19: Rzt. -/
import Derived.Test.YteicafhbhdliaaaGreatDoorPar
set_option linter.constructorNameAsVariable false
set_option linter.unusedSimpArgs false
set_option linter.unusedVariables false
set_option maxRecDepth 100000
namespace Go.Proofs.YteicafhbhdliaaaGreatDoor.topTickets
open Go Go.Vc Go.Sl Go.Proofs Go.RowKit Go.ChangeShapes Go.WideShapes Go.ChangeAt
theorem contract (H : Type) (enc : TypeId × Value → H) (W : World) (base : Nat) (args : Array Value) (ds gs : List (DataW H)) (before : List MemPlace)
  (hval : ∀ (j : Nat) t v, Tryz.f3.params[j]? = some t → args[j]? = some v → Value.okWide Tryz.prog W .any base t v)
  (hW : DataW.Whole enc Tryz.prog Tryz.f3.params.toList Rows.topTicketsSpec.vars false W args.toList ds gs before) (hL : laidMetH Tryz.prog Rows.topTicketsRow.laid W)
  (hsz : (DataW.weightsEach Tryz.prog (Tryz.f3.params.toList ++ (OpenSpec.ofChange Rows.topTicketsSpec).bare.plain.varTypes Tryz.prog) (ds ++ gs)).all (· ≤ reachBytes) = true) :
  Calls Tryz.prog 3 args W fun e W' => ∃ v, e = .returned v ∧ Rows.topTicketsSpec.post enc Tryz.prog Tryz.f3 false true false false W args v W' := by
 have hW' := hW
 obtain ⟨p, q, hA0, hV, rfl, _, _⟩ := hW
 have hA : DataW.TrodAll enc Tryz.prog W 0 (fun _ => true) true [3, 9] args.toList ds p := hA0
 have hval : ∀ (j : Nat) t v, #[3, 9][j]? = some t → args[j]? = some v → Value.okWide Tryz.prog W .any base t v := hval
 obtain ⟨rfl, rfl⟩ := trodVars_none hV
 obtain ⟨v0, vs0, d0, ds0, p0, q0, hargs, rfl, rfl, g0, r0⟩ := trodAll_cons hA
 obtain ⟨v1, vs1, d1, ds1, p1, q1, rfl, rfl, rfl, g1, r1⟩ := trodAll_cons r0
 obtain ⟨rfl, rfl, rfl⟩ := trodAll_nil r1
 obtain rfl : args = #[v0, v1] := by cases args; simp_all
 obtain ⟨x0, rfl, lo0, hi0⟩ := open_num (hval 0 _ v0 rfl rfl) g0
 obtain ⟨x1, rfl, rfl⟩ := open_text (hval 1 _ v1 rfl rfl) g1
 have hs1 : x1.length ≤ reachBytes := sized_string (ts := [3, 9] ++ []) hsz (j := 1) rfl rfl
 have hs1 : x1.length ≤ 140737488351232 := hs1
 refine (run_lawZ (tickets_ok x0 x1 lo0 hi0 hs1) (gx_of hL) (vs := [.int .i64 x0, .string ⟨x1.toArray⟩]) ⟨by rw [R, RP], ⟨by rw [R, RP], trivial⟩⟩ rfl).mono ?_
 rintro e W' ⟨rfl, hb⟩
 exact ⟨_, rfl, post_true rfl rfl (by kernel_rfl) rfl hW' hb⟩
theorem laid_met (os : Os) : laidMet Tryz.prog Rows.topTicketsRow.laid ((laidWorldZ os).forCall (fun _ _ => 0) ⟨#[], #[.int .i64 0, .string ⟨#[]⟩], []⟩).memory :=
 laidMet_of_run' 8 (by kernel_rfl) (by kernel_rfl)
theorem reads (os : Os) {H : Type} (enc : TypeId × Value → H) : ∃ places, DataW.whole enc Tryz.prog ((laidWorldZ os).forCall (fun _ _ => 0) ⟨#[], #[.int .i64 0, .string ⟨#[]⟩], []⟩).memory Tryz.f3.params.toList Rows.topTicketsSpec.vars false (#[Value.int .i64 0, .string ⟨#[]⟩] : Array Value).toList 8 = some ([.lit (.int .i64 0), .lit (.string [])], [], places) :=
 ⟨[], by kernel_rfl⟩
theorem lifted (os : Os) (started : os.Started) (H : Type) (enc : TypeId × Value → H) (F : Stop.Interp) :
  ReturnsInHanded {} Tryz.checked os 3 .any ((OpenSpec.ofChange Rows.topTicketsSpec).preRow enc Tryz.prog Tryz.f3 Rows.topTicketsRow.domain false Rows.topTicketsRow.laid) (((OpenSpec.ofChange Rows.topTicketsSpec).at F).post enc Tryz.prog Tryz.f3 false true false false) := by
 obtain ⟨places, hx⟩ := reads os enc
 refine returnsInHanded_of_row (C := Tryz.checked) (s := (OpenSpec.ofChange Rows.topTicketsSpec)) own started (by kernel_rfl) Tryz.func3
  (witness_row_at (enc := enc) (C := Tryz.checked) false (laidWorldZ os) #[.int .i64 0, .string ⟨#[]⟩] rfl (by kernel_rfl) (by kernel_rfl) (by kernel_rfl)
   (OpenSpec.preRow_of_cond 8 hx (by kernel_rfl) (fun k hk => by cases hk) (by kernel_rfl) (laid_met os))) ?_
 intro W base args ds gs before hval hW _ hcond hsz hL _ _
 exact contract H enc W base args ds gs before hval hW hL hsz
set_option maxHeartbeats 20000000 in
theorem closed : joinedFacts Tryz.pinned.checked.prog 3 Tryz.f3 (OpenSpec.ofChange Rows.topTicketsSpec).bare Rows.topTicketsRow = true := by
 unfold joinedFacts
 simp only [Bool.and_eq_true]
 repeat' refine And.intro ?_ ?_
 all_goals (as_aux_lemma => kernel_rfl)
theorem said : Rows.TopTicketsSaid :=
 OpenClaim.holds_of_cond 3 Tryz.f3 rfl rfl rfl rfl rfl rfl rfl ⟨rfl, rfl, rfl, rfl, rfl⟩ rfl rfl rfl rfl rfl (by kernel_rfl) Tryz.func3 closed
  (of_decide_eq_true (by kernel_rfl)) (by unfold Func.isWrapper; first | (rw [if_pos (by decide +kernel)]; kernel_rfl) | (rw [if_neg (by decide +kernel)]; exact ⟨rfl, rfl⟩))
  (fun os started H enc _ F => by rw [OpenClaim.pre_eq_preRow]; exact lifted os started H enc F)
theorem plain (f : FuncId) (fn : Func) (hf : Tryz.pinned.checked.prog.funcNamed "sluiceway/sluicewaytop.TopTickets" = some f) (hfn : Tryz.pinned.checked.prog.funcs[f]? = some fn) :
  true = Tryz.pinned.checked.prog.looks [] ∧ ∀ (j : Nat) t, fn.params[j]? = some t → Tryz.pinned.checked.prog.wantsStandIn t = false := by
 obtain rfl : f = 3 := Option.some.inj ((show Tryz.prog.funcNamed "sluiceway/sluicewaytop.TopTickets" = some 3 by kernel_rfl).symm.trans hf) |>.symm
 obtain rfl : fn = Tryz.f3 := (Option.some.inj (Tryz.func3.symm.trans hfn)).symm
 refine ⟨by kernel_rfl, fun j t ht => ?_⟩
 have ht : (#[3, 9] : Array TypeId)[j]? = some t := ht
 have hm := Array.mem_of_getElem? ht
 have hall : ∀ t ∈ (#[3, 9] : Array TypeId), Tryz.prog.wantsStandIn t = false := by
  intro t ht
  simp only [List.mem_toArray, List.mem_cons, List.not_mem_nil, or_false] at ht
  rcases ht with rfl | rfl <;> kernel_rfl
 exact hall t hm
theorem card : Rows.TopTicketsCardSaid :=
 Claim7.holds_tied_plain_at .later [] _ _ _ _ said (fun _ h => by cases h) (by kernel_rfl) (fun _ h => by cases h) topTickets_row_tie rfl ⟨rfl, rfl⟩ (by kernel_rfl) rfl plain (by kernel_rfl)
end Go.Proofs.YteicafhbhdliaaaGreatDoor.topTickets
