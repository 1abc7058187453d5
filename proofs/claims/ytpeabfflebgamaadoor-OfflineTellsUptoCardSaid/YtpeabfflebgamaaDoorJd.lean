/- Contracts of layer 9: is all of a row made? -/
import Derived.Test.YtpeabfflebgamaaDoorQg
set_option linter.unusedVariables false
set_option linter.unusedSimpArgs false
/- short -/
namespace Go.Sl
open Go Go.Vc Go.Proofs Go.RowKit

/-- Is a term made of what is known? -/
abbrev mkC (S : List Bs) (t : Tm) : Bool := mkB S (canT t)
theorem nomake_ok (L : List Tm) (S : List Bs) (t : Tm) (hf : Fit t) (hw : wt t ≤ 1000000000) (D : List (Bs × Bool)) (hD : DOk S D) :
    ∃ D', DOk S D' ∧ PM (cx true) 82 ((2100, .var false 40 (.ptr 2000 0)) :: KP L S D) [tv t, .ptr 2100 0] (KP L S D') (.p (.bool (!mkC S t))) := by
  obtain ⟨D', h1, h2⟩ := Makes_ok L S t hf hw D hD
  refine ⟨D', h1, ?_⟩
  refine PM_of_vc (cx_ok true) (mixed true) { own := fun q => Nat.beq q 100006 } Tryd.func82 (by kernel_rfl) rfl rfl (by kernel_rfl) rfl ?_
  repeat (conv => whnf); first|refine IndepAnd (by kernel_rfl) ?_|refine ⟨rfl,?_⟩|refine And.intro (by first|decide|exact trivial|exact ⟨_,rfl,rfl⟩|exact ⟨rfl,trivial⟩|exact ⟨rfl,rfl,trivial⟩) ?_
  conv => whnf
  refine ⟨_, MCallVC.pr gid h2 ⟨LE.of rfl, LE.of rfl, trivial⟩ ⟨.inr (.inl rfl), .inr (.inl rfl), .inr (.inl rfl), .inr (.inl rfl), trivial⟩ rfl, ?_⟩
  repeat (conv => whnf); first|refine IndepAnd (by kernel_rfl) ?_|refine ⟨rfl,?_⟩|refine And.intro (by first|decide|exact trivial|exact ⟨_,rfl,rfl⟩|exact ⟨rfl,trivial⟩|exact ⟨rfl,rfl,trivial⟩) ?_
  conv => whnf
  exact ⟨gid, ⟨rfl, LE.of rfl⟩, ⟨.inr (.inl rfl), .inr (.inl rfl), .inr (.inl rfl), .inr (.inl rfl), trivial⟩, rfl, rfl⟩
def ixO (q : Tm → Bool) (l : List Tm) : Int := if l.all q then -1 else ((l.takeWhile q).length : Int)
theorem ixo_ok (L : List Tm) (S : List Bs) (q : Tm → Bool) (l : List Tm) (Ds : Nat → List (Bs × Bool)) (hl : l.length ≤ 9223372036854775807)
    (h : ∀ i (hi : i < l.length), PM (cx true) 82 ((2100, .var false 40 (.ptr 2000 0)) :: KP L S (Ds i)) [tv l[i], .ptr 2100 0] (KP L S (Ds (i + 1))) (.p (.bool (!q l[i])))) :
    PM (cx true) 88 ((2100, .var false 40 (.ptr 2000 0)) :: KP L S (Ds 0)) [lv l, .fn 82 [.ptr 2100 0]] (KP L S (Ds (stopT q l))) (iv (ixO q l)) := by
  refine PM_of_vc (cx_ok true) (mixed true) { own := fun q => Nat.beq q 100016 } Tryd.func88 (by kernel_rfl) rfl rfl (by kernel_rfl) rfl ?_
  repeat (conv => whnf); first|refine IndepAnd (by kernel_rfl) ?_|refine ⟨rfl,?_⟩|refine And.intro (by first|decide|exact trivial|exact ⟨_,rfl,rfl⟩|exact ⟨rfl,trivial⟩|exact ⟨rfl,rfl,trivial⟩) ?_
  conv => whnf
  refine ⟨{ i : Nat // i ≤ l.length ∧ ∀ u ∈ l.take i, q u = true }, fun i => Vc.S.of [(0, lv l), (1, .fn 82 [.ptr 2100 0]), (4, iv 0), (7, iv ((tmvs l).length : Int)), (8, iv (i.1 : Int))] ((2100, .var false 40 (.ptr 2000 0)) :: KP L S (Ds i.1)), fun i => l.length - i.1, ⟨0, Nat.zero_le _, by simp⟩, ?_, ?_⟩
  · refine Ge.of rfl ?_ ?_
    · repeat (conv => whnf); refine ⟨LE.of rfl, ?_⟩
      trivial
    · repeat (conv => whnf); refine ⟨OLE.of rfl, ?_⟩
      trivial
  rintro ⟨i, hi, hq⟩
  repeat (conv => whnf); first|refine IndepAnd (by kernel_rfl) ?_|refine ⟨rfl,?_⟩|refine And.intro (by first|decide|exact trivial|exact ⟨_,rfl,rfl⟩|exact ⟨rfl,trivial⟩|exact ⟨rfl,rfl,trivial⟩) ?_
  conv => whnf
  refine @bool_rec _ _ _ ?_ ?_ <;> intro h1
  · have hlt : i < l.length := by have := of_decide_eq_true h1; rw [tmvs_length] at this; exact Int.ofNat_lt.1 this
    repeat (conv => whnf); first|refine IndepAnd (by kernel_rfl) ?_|refine ⟨rfl,?_⟩|refine And.intro (by first|decide|exact trivial|exact ⟨_,rfl,rfl⟩|exact ⟨rfl,trivial⟩|exact ⟨rfl,rfl,trivial⟩) ?_
    conv => whnf
    refine ⟨Int.natCast_nonneg _, TV l[i], tmvs_getN hlt, rfl, rfl, ?_⟩
    repeat (conv => whnf); first|refine IndepAnd (by kernel_rfl) ?_|refine ⟨rfl,?_⟩|refine And.intro (by first|decide|exact trivial|exact ⟨_,rfl,rfl⟩|exact ⟨rfl,trivial⟩|exact ⟨rfl,rfl,trivial⟩) ?_
    conv => whnf
    refine ⟨_, MCallVC.pr gid (h i hlt) ⟨LE.of rfl, LE.of rfl, trivial⟩ ⟨.inr (.inl rfl), .inr (.inl rfl), .inr (.inl rfl), .inr (.inl rfl), .inr (.inl rfl), trivial⟩ rfl, ?_⟩
    repeat (conv => whnf); first|refine IndepAnd (by kernel_rfl) ?_|refine ⟨rfl,?_⟩|refine And.intro (by first|decide|exact trivial|exact ⟨_,rfl,rfl⟩|exact ⟨rfl,trivial⟩|exact ⟨rfl,rfl,trivial⟩) ?_
    conv => whnf
    refine @bool_rec _ _ _ ?_ ?_ <;> intro h2
    · have h2 : q l[i] = false := by have h2 : (!q l[i]) = true := h2; revert h2; cases q l[i] <;> simp
      have hstop : stopT q l = i + 1 := by rw [stopT, takeWhile_at hlt hq h2]; omega
      have hall : ixO q l = (i : Int) := by
        have : l.all q = false := by
          rw [← Bool.not_eq_true, List.all_eq_true]
          intro hc
          rw [hc _ (List.getElem_mem hlt)] at h2
          cases h2
        rw [ixO, this, takeWhile_at hlt hq h2]; rfl
      rw [hstop, hall]
      repeat (conv => whnf); first|refine IndepAnd (by kernel_rfl) ?_|refine ⟨rfl,?_⟩|refine And.intro (by first|decide|exact trivial|exact ⟨_,rfl,rfl⟩|exact ⟨rfl,trivial⟩|exact ⟨rfl,rfl,trivial⟩) ?_
      conv => whnf
      exact ⟨gid, ⟨rfl, LE.of rfl⟩, ⟨.inr (.inl rfl), .inr (.inl rfl), .inr (.inl rfl), .inr (.inl rfl), trivial⟩, rfl, rfl⟩
    · have h2 : q l[i] = true := by have h2 : (!q l[i]) = false := h2; revert h2; cases q l[i] <;> simp
      repeat (conv => whnf); first|refine IndepAnd (by kernel_rfl) ?_|refine ⟨rfl,?_⟩|refine And.intro (by first|decide|exact trivial|exact ⟨_,rfl,rfl⟩|exact ⟨rfl,trivial⟩|exact ⟨rfl,rfl,trivial⟩) ?_
      conv => whnf
      refine ⟨_, wrapN (n := i + 1) rfl (by omega), ?_⟩
      repeat (conv => whnf); first|refine IndepAnd (by kernel_rfl) ?_|refine ⟨rfl,?_⟩|refine And.intro (by first|decide|exact trivial|exact ⟨_,rfl,rfl⟩|exact ⟨rfl,trivial⟩|exact ⟨rfl,rfl,trivial⟩) ?_
      conv => whnf
      refine ⟨⟨i + 1, hlt, fun u hu => ?_⟩, ?_, by show l.length - (i + 1) < l.length - i; omega⟩
      · rw [List.take_succ_eq_append_getElem hlt, List.mem_append] at hu
        rcases hu with hu | hu
        · exact hq u hu
        · rw [List.mem_singleton.1 hu]; exact h2
      · refine Ge.of rfl ?_ ?_
        · repeat (conv => whnf); refine ⟨LE.of rfl, ?_⟩
          trivial
        · repeat (conv => whnf); refine ⟨OLE.of rfl, ?_⟩
          trivial
  · have hge : i = l.length := by have h1 := of_decide_eq_false h1; rw [tmvs_length] at h1; have h1 : ¬ (i : Int) < (l.length : Int) := h1; omega
    have hq : ∀ u ∈ l, q u = true := fun u hu => hq u (by show u ∈ l.take i; rw [hge, List.take_length]; exact hu)
    have hstop : stopT q l = i := by rw [stopT, takeWhile_all hq]; omega
    have hall : ixO q l = -1 := by rw [ixO, List.all_eq_true.2 hq]; rfl
    rw [hstop, hall]
    repeat (conv => whnf); first|refine IndepAnd (by kernel_rfl) ?_|refine ⟨rfl,?_⟩|refine And.intro (by first|decide|exact trivial|exact ⟨_,rfl,rfl⟩|exact ⟨rfl,trivial⟩|exact ⟨rfl,rfl,trivial⟩) ?_
    conv => whnf
    exact ⟨gid, ⟨rfl, LE.of rfl⟩, ⟨.inr (.inl rfl), .inr (.inl rfl), .inr (.inl rfl), .inr (.inl rfl), trivial⟩, rfl, rfl⟩
theorem ixO_nn (q : Tm → Bool) (l : List Tm) : decide (0 ≤ ixO q l) = !l.all q := by
  unfold ixO
  cases l.all q with
  | true => rfl
  | false => simp
/-- One behind the other. -/
theorem chainN_ok (L : List Tm) (S : List Bs) : ∀ (l : List Tm) (D : List (Bs × Bool)), DOk S D → (∀ u ∈ l, Fit u) → (∀ u ∈ l, wt u ≤ 1000000000) →
    ∃ Ds : Nat → List (Bs × Bool), Ds 0 = D ∧ (∀ i, i ≤ l.length → DOk S (Ds i)) ∧ ∀ i (hi : i < l.length), PM (cx true) 82 ((2100, .var false 40 (.ptr 2000 0)) :: KP L S (Ds i)) [tv l[i], .ptr 2100 0] (KP L S (Ds (i + 1))) (.p (.bool (!mkC S l[i])))
  | [], D, hD, _, _ => ⟨fun _ => D, rfl, fun _ _ => hD, fun i hi => by simp at hi⟩
  | u :: l, D, hD, hf, hw => by
    obtain ⟨D1, h1, h2⟩ := nomake_ok L S u (hf u (List.mem_cons_self ..)) (hw u (List.mem_cons_self ..)) D hD
    obtain ⟨Ds, g1, g2, g3⟩ := chainN_ok L S l D1 h1 (fun v hv => hf v (List.mem_cons_of_mem _ hv)) (fun v hv => hw v (List.mem_cons_of_mem _ hv))
    refine ⟨fun i => match i with | 0 => D | i + 1 => Ds i, rfl, fun i hi => ?_, fun i hi => ?_⟩
    · cases i with
      | zero => exact hD
      | succ i => exact g2 i (by simpa using hi)
    · cases i with
      | zero => simp only [List.getElem_cons_zero]; rw [g1]; exact h2
      | succ i => exact g3 i (by simpa using hi)
theorem contains_ok (L : List Tm) (S : List Bs) (l : List Tm) (hl : l.length ≤ 9223372036854775807) (hf : ∀ u ∈ l, Fit u) (hw : ∀ u ∈ l, wt u ≤ 1000000000) (D : List (Bs × Bool)) (hD : DOk S D) :
    ∃ D', DOk S D' ∧ PM (cx true) 76 ((2100, .var false 40 (.ptr 2000 0)) :: KP L S D) [lv l, .fn 82 [.ptr 2100 0]] (KP L S D') (.p (.bool (!l.all (mkC S)))) := by
  obtain ⟨Ds, g1, g2, g3⟩ := chainN_ok L S l D hD hf hw
  refine ⟨Ds (stopT (mkC S) l), g2 _ (stop_le _ _), ?_⟩
  have h := ixo_ok L S (mkC S) l Ds hl g3
  rw [g1] at h
  refine PM_of_vc (cx_ok true) (mixed true) { own := fun q => Nat.beq q 100007 } Tryd.func76 (by kernel_rfl) rfl rfl (by kernel_rfl) rfl ?_
  repeat (conv => whnf); first|refine IndepAnd (by kernel_rfl) ?_|refine ⟨rfl,?_⟩|refine And.intro (by first|decide|exact trivial|exact ⟨_,rfl,rfl⟩|exact ⟨rfl,trivial⟩|exact ⟨rfl,rfl,trivial⟩) ?_
  conv => whnf
  refine ⟨_, MCallVC.pr gid h ⟨LE.of rfl, LE.of rfl, trivial⟩ ⟨.inr (.inl rfl), .inr (.inl rfl), .inr (.inl rfl), .inr (.inl rfl), .inr (.inl rfl), trivial⟩ rfl, ?_⟩
  repeat (conv => whnf); first|refine IndepAnd (by kernel_rfl) ?_|refine ⟨rfl,?_⟩|refine And.intro (by first|decide|exact trivial|exact ⟨_,rfl,rfl⟩|exact ⟨rfl,trivial⟩|exact ⟨rfl,rfl,trivial⟩) ?_
  conv => whnf
  exact ⟨gid, ⟨rfl, LE.of (congrArg (fun b => SV.p (.bool b)) (ixO_nn _ _))⟩, ⟨.inr (.inl rfl), .inr (.inl rfl), .inr (.inl rfl), .inr (.inl rfl), trivial⟩, rfl, rfl⟩
theorem allmade_ok (L : List Tm) (S : List Bs) (l : List Tm) (hl : l.length ≤ 9223372036854775807) (hf : ∀ u ∈ l, Fit u) (hw : ∀ u ∈ l, wt u ≤ 1000000000) (D : List (Bs × Bool)) (hD : DOk S D) :
    ∃ D', DOk S D' ∧ PM (cx true) 81 (KP L S D) [.ptr 2000 0, lv l] (KP L S D') (.p (.bool (l.all (mkC S)))) := by
  obtain ⟨D', h1, h2⟩ := contains_ok L S l hl hf hw D hD
  refine ⟨D', h1, ?_⟩
  refine PM_of_vc (cx_ok true) (mixed true) { own := fun q => Nat.beq q 100007 } Tryd.func81 (by kernel_rfl) rfl rfl (by kernel_rfl) rfl ?_
  repeat (conv => whnf); first|refine IndepAnd (by kernel_rfl) ?_|refine ⟨rfl,?_⟩|refine And.intro (by first|decide|exact trivial|exact ⟨_,rfl,rfl⟩|exact ⟨rfl,trivial⟩|exact ⟨rfl,rfl,trivial⟩) ?_
  conv => whnf
  refine ⟨_, MCallVC.pr (gT [(2100, 2)]) h2 ⟨LE.of rfl, LE.of rfl, trivial⟩ ⟨.inr (.inr (.inr ⟨_, _, _, rfl, rfl, LE.refl _⟩)), .inr (.inl rfl), .inr (.inl rfl), .inr (.inl rfl), .inr (.inl rfl), trivial⟩ rfl, ?_⟩
  repeat (conv => whnf); first|refine IndepAnd (by kernel_rfl) ?_|refine ⟨rfl,?_⟩|refine And.intro (by first|decide|exact trivial|exact ⟨_,rfl,rfl⟩|exact ⟨rfl,trivial⟩|exact ⟨rfl,rfl,trivial⟩) ?_
  conv => whnf
  exact ⟨gid, ⟨rfl, LE.of (congrArg (fun b => SV.p (.bool b)) (Bool.not_not _))⟩, ⟨.inr (.inl rfl), .inr (.inl rfl), .inr (.inl rfl), .inr (.inl rfl), trivial⟩, rfl, rfl⟩
end Go.Sl
/- short -/
namespace Go.Sl
open Go Go.Vc Go.Proofs Go.RowKit

/-- Two that are known, and the texts that are there. -/
structure Vw where
  l0 : List Tm
  s0 : List Bs
  l1 : List Tm
  s1 : List Bs
  th : List Bs
/-- What was found out of both. -/
structure Dd where
  d0 : List (Bs × Bool)
  d1 : List (Bs × Bool)
structure Dd.Ok (V : Vw) (d : Dd) : Prop where
  h0 : DOk V.s0 d.d0
  h1 : DOk V.s1 d.d1
abbrev vwV : SV := .mix [.ptr 2000 0, .ptr 2010 0, .slc 2020]
abbrev KO (V : Vw) (d : Dd) : List (Nat × AO) :=
  [(2000, .var true 39 (.mix [.slc 2001, .slc 2002, .slc 2003])), (2001, .row 24 3 (tmvs V.l0)), (2002, .mp 37 true (isM V.s0)), (2003, .mp 37 true (mdM d.d0)),
   (2010, .var true 39 (.mix [.slc 2011, .slc 2012, .slc 2013])), (2011, .row 24 3 (tmvs V.l1)), (2012, .mp 37 true (isM V.s1)), (2013, .mp 37 true (mdM d.d1)),
   (2020, .mp 37 true (isM V.th))]
/-- A row of rows. -/
def rws (rows : List (List Tm)) : List PV := rows.map fun r => .lst (tmvs r)
theorem rws_length (rows : List (List Tm)) : (rws rows).length = rows.length := List.length_map ..
theorem rws_get {rows : List (List Tm)} {i : Nat} (h : i < rows.length) : (rws rows)[((i : Nat) : Int).toNat]? = some (.lst (tmvs rows[i])) := by
  rw [Int.toNat_natCast, rws, List.getElem?_map, List.getElem?_eq_getElem h]; rfl
abbrev FVO : Nat × AO := (2101, .var false 74 (.fn 81 []))
abbrev VVO : Nat × AO := (2100, .var false 47 vwV)
abbrev gQ : Nat → Nat := gT [(2000, 2010), (2001, 2011), (2002, 2012), (2003, 2013)]
structure RowOk (r : List Tm) : Prop where
  hl : r.length ≤ 9223372036854775807
  hf : ∀ u ∈ r, Fit u
  hw : ∀ u ∈ r, wt u ≤ 1000000000
theorem with_row (V : Vw) (r : List Tm) (hr : RowOk r) (d : Dd) (hd : d.Ok V) :
    ∃ d' : Dd, d'.Ok V ∧ PM (cx true) 84 (FVO :: VVO :: KO V d) [lv r, .ptr 2101 0, .ptr 2100 0] (KO V d') (.p (.bool (r.all (mkC V.s1)))) := by
  obtain ⟨l0, s0, l1, s1, th⟩ := V
  obtain ⟨d0, d1⟩ := d
  obtain ⟨D', h1, h2⟩ := allmade_ok l1 s1 r hr.hl hr.hf hr.hw d1 hd.h1
  refine ⟨⟨d0, D'⟩, ⟨hd.h0, h1⟩, ?_⟩
  refine PM_of_vc (cx_ok true) (mixed true) { own := fun q => Nat.beq q 100009 } Tryd.func84 (by kernel_rfl) rfl rfl (by kernel_rfl) rfl ?_
  repeat (conv => whnf); first|refine IndepAnd (by kernel_rfl) ?_|refine ⟨rfl,?_⟩|refine And.intro (by first|decide|exact trivial|exact ⟨_,rfl,rfl⟩|exact ⟨rfl,trivial⟩|exact ⟨rfl,rfl,trivial⟩) ?_
  conv => whnf
  refine ⟨_, MCallVC.pr gQ h2 ⟨LE.of rfl, LE.of rfl, trivial⟩ ⟨.inr (.inl rfl), .inr (.inl rfl), .inr (.inl rfl), .inr (.inl rfl), trivial⟩ rfl, ?_⟩
  repeat (conv => whnf); first|refine IndepAnd (by kernel_rfl) ?_|refine ⟨rfl,?_⟩|refine And.intro (by first|decide|exact trivial|exact ⟨_,rfl,rfl⟩|exact ⟨rfl,trivial⟩|exact ⟨rfl,rfl,trivial⟩) ?_
  conv => whnf
  exact ⟨gid, ⟨rfl, LE.of rfl⟩, ⟨.inr (.inl rfl), .inr (.inl rfl), .inr (.inl rfl), .inr (.inl rfl), .inr (.inl rfl), .inr (.inl rfl), .inr (.inl rfl), .inr (.inl rfl), .inr (.inl rfl), trivial⟩, rfl, rfl⟩
theorem without_row (V : Vw) (r : List Tm) (hr : RowOk r) (d : Dd) (hd : d.Ok V) :
    ∃ d' : Dd, d'.Ok V ∧ PM (cx true) 85 (FVO :: VVO :: KO V d) [lv r, .ptr 2101 0, .ptr 2100 0] (KO V d') (.p (.bool (r.all (mkC V.s0)))) := by
  obtain ⟨l0, s0, l1, s1, th⟩ := V
  obtain ⟨d0, d1⟩ := d
  obtain ⟨D', h1, h2⟩ := allmade_ok l0 s0 r hr.hl hr.hf hr.hw d0 hd.h0
  refine ⟨⟨D', d1⟩, ⟨h1, hd.h1⟩, ?_⟩
  refine PM_of_vc (cx_ok true) (mixed true) { own := fun q => Nat.beq q 100009 } Tryd.func85 (by kernel_rfl) rfl rfl (by kernel_rfl) rfl ?_
  repeat (conv => whnf); first|refine IndepAnd (by kernel_rfl) ?_|refine ⟨rfl,?_⟩|refine And.intro (by first|decide|exact trivial|exact ⟨_,rfl,rfl⟩|exact ⟨rfl,trivial⟩|exact ⟨rfl,rfl,trivial⟩) ?_
  conv => whnf
  refine ⟨_, MCallVC.pr gid h2 ⟨LE.of rfl, LE.of rfl, trivial⟩ ⟨.inr (.inl rfl), .inr (.inl rfl), .inr (.inl rfl), .inr (.inl rfl), trivial⟩ rfl, ?_⟩
  repeat (conv => whnf); first|refine IndepAnd (by kernel_rfl) ?_|refine ⟨rfl,?_⟩|refine And.intro (by first|decide|exact trivial|exact ⟨_,rfl,rfl⟩|exact ⟨rfl,trivial⟩|exact ⟨rfl,rfl,trivial⟩) ?_
  conv => whnf
  exact ⟨gid, ⟨rfl, LE.of rfl⟩, ⟨.inr (.inl rfl), .inr (.inl rfl), .inr (.inl rfl), .inr (.inl rfl), .inr (.inl rfl), .inr (.inl rfl), .inr (.inl rfl), .inr (.inl rfl), .inr (.inl rfl), trivial⟩, rfl, rfl⟩
/-- The first of some rows that has it. -/
def ixR (q : List Tm → Bool) (l : List (List Tm)) : Int := if l.any q then ((l.takeWhile fun r => !q r).length : Int) else -1
def stopR (q : List Tm → Bool) (l : List (List Tm)) : Nat := min l.length ((l.takeWhile fun r => !q r).length + 1)
theorem ixR_nn (q : List Tm → Bool) (l : List (List Tm)) : decide (0 ≤ ixR q l) = l.any q := by
  unfold ixR
  cases l.any q with
  | false => rfl
  | true => simp
theorem takeR_at {q : List Tm → Bool} : ∀ {l : List (List Tm)} {i : Nat} (hi : i < l.length), (∀ u ∈ l.take i, q u = false) → q l[i] = true → (l.takeWhile fun r => !q r).length = i
  | [], i, hi, _, _ => by simp at hi
  | t :: l, 0, hi, _, h => by
    simp at h
    simp [List.takeWhile, h]
  | t :: l, i + 1, hi, h1, h2 => by
    have ht := h1 t (by simp)
    simp only [List.takeWhile, ht, Bool.not_false]
    rw [List.length_cons, takeR_at (i := i) (by simpa using hi) (fun u hu => h1 u (by simp [hu])) (by simpa using h2)]
theorem takeR_all {q : List Tm → Bool} {l : List (List Tm)} (h : ∀ u ∈ l, q u = false) : (l.takeWhile fun r => !q r).length = l.length := by
  induction l with
  | nil => rfl
  | cons t l ih => simp only [List.takeWhile, h t (List.mem_cons_self ..), Bool.not_false, List.length_cons]; rw [ih fun u hu => h u (List.mem_cons_of_mem _ hu)]
theorem ixr_ok (V : Vw) (f : FuncId) (q : List Tm → Bool) (l : List (List Tm)) (ds : Nat → Dd) (hl : l.length ≤ 9223372036854775807)
    (h : ∀ i (hi : i < l.length), PM (cx true) f (FVO :: VVO :: KO V (ds i)) [lv l[i], .ptr 2101 0, .ptr 2100 0] (KO V (ds (i + 1))) (.p (.bool (q l[i])))) :
    PM (cx true) 93 (FVO :: VVO :: KO V (ds 0)) [.p (.lst (rws l)), .fn f [.ptr 2101 0, .ptr 2100 0]] (KO V (ds (stopR q l))) (iv (ixR q l)) := by
  refine PM_of_vc (cx_ok true) (mixed true) { own := fun q => Nat.beq q 100016 } Tryd.func93 (by kernel_rfl) rfl rfl (by kernel_rfl) rfl ?_
  repeat (conv => whnf); first|refine IndepAnd (by kernel_rfl) ?_|refine ⟨rfl,?_⟩|refine And.intro (by first|decide|exact trivial|exact ⟨_,rfl,rfl⟩|exact ⟨rfl,trivial⟩|exact ⟨rfl,rfl,trivial⟩) ?_
  conv => whnf
  refine ⟨{ i : Nat // i ≤ l.length ∧ ∀ u ∈ l.take i, q u = false }, fun i => Vc.S.of [(0, .p (.lst (rws l))), (1, .fn f [.ptr 2101 0, .ptr 2100 0]), (4, iv 0), (7, iv ((rws l).length : Int)), (8, iv (i.1 : Int))] (FVO :: VVO :: KO V (ds i.1)), fun i => l.length - i.1, ⟨0, Nat.zero_le _, by simp⟩, ?_, ?_⟩
  · refine Ge.of rfl ?_ ?_
    · repeat (conv => whnf); refine ⟨LE.of rfl, ?_⟩
      trivial
    · repeat (conv => whnf); refine ⟨OLE.of rfl, ?_⟩
      trivial
  rintro ⟨i, hi, hq⟩
  repeat (conv => whnf); first|refine IndepAnd (by kernel_rfl) ?_|refine ⟨rfl,?_⟩|refine And.intro (by first|decide|exact trivial|exact ⟨_,rfl,rfl⟩|exact ⟨rfl,trivial⟩|exact ⟨rfl,rfl,trivial⟩) ?_
  conv => whnf
  refine @bool_rec _ _ _ ?_ ?_ <;> intro h1
  · have hlt : i < l.length := by have := of_decide_eq_true h1; rw [rws_length] at this; exact Int.ofNat_lt.1 this
    repeat (conv => whnf); first|refine IndepAnd (by kernel_rfl) ?_|refine ⟨rfl,?_⟩|refine And.intro (by first|decide|exact trivial|exact ⟨_,rfl,rfl⟩|exact ⟨rfl,trivial⟩|exact ⟨rfl,rfl,trivial⟩) ?_
    conv => whnf
    refine ⟨Int.natCast_nonneg _, .lst (tmvs l[i]), rws_get hlt, rfl, rfl, ?_⟩
    repeat (conv => whnf); first|refine IndepAnd (by kernel_rfl) ?_|refine ⟨rfl,?_⟩|refine And.intro (by first|decide|exact trivial|exact ⟨_,rfl,rfl⟩|exact ⟨rfl,trivial⟩|exact ⟨rfl,rfl,trivial⟩) ?_
    conv => whnf
    refine ⟨_, MCallVC.pr gid (h i hlt) ⟨LE.of rfl, LE.of rfl, LE.of rfl, trivial⟩ ⟨.inr (.inl rfl), .inr (.inl rfl), .inr (.inl rfl), .inr (.inl rfl), .inr (.inl rfl), .inr (.inl rfl), .inr (.inl rfl), .inr (.inl rfl), .inr (.inl rfl), .inr (.inl rfl), .inr (.inl rfl), trivial⟩ rfl, ?_⟩
    repeat (conv => whnf); first|refine IndepAnd (by kernel_rfl) ?_|refine ⟨rfl,?_⟩|refine And.intro (by first|decide|exact trivial|exact ⟨_,rfl,rfl⟩|exact ⟨rfl,trivial⟩|exact ⟨rfl,rfl,trivial⟩) ?_
    conv => whnf
    refine @bool_rec _ _ _ ?_ ?_ <;> intro h2
    · have h2 : q l[i] = true := h2
      have hstop : stopR q l = i + 1 := by rw [stopR, takeR_at hlt hq h2]; omega
      have hall : ixR q l = (i : Int) := by
        have : l.any q = true := List.any_eq_true.2 ⟨_, List.getElem_mem hlt, h2⟩
        rw [ixR, this, takeR_at hlt hq h2]; rfl
      rw [hstop, hall]
      repeat (conv => whnf); first|refine IndepAnd (by kernel_rfl) ?_|refine ⟨rfl,?_⟩|refine And.intro (by first|decide|exact trivial|exact ⟨_,rfl,rfl⟩|exact ⟨rfl,trivial⟩|exact ⟨rfl,rfl,trivial⟩) ?_
      conv => whnf
      exact ⟨gid, ⟨rfl, LE.of rfl⟩, ⟨.inr (.inl rfl), .inr (.inl rfl), .inr (.inl rfl), .inr (.inl rfl), .inr (.inl rfl), .inr (.inl rfl), .inr (.inl rfl), .inr (.inl rfl), .inr (.inl rfl), trivial⟩, rfl, rfl⟩
    · have h2 : q l[i] = false := h2
      repeat (conv => whnf); first|refine IndepAnd (by kernel_rfl) ?_|refine ⟨rfl,?_⟩|refine And.intro (by first|decide|exact trivial|exact ⟨_,rfl,rfl⟩|exact ⟨rfl,trivial⟩|exact ⟨rfl,rfl,trivial⟩) ?_
      conv => whnf
      refine ⟨_, wrapN (n := i + 1) rfl (by omega), ?_⟩
      repeat (conv => whnf); first|refine IndepAnd (by kernel_rfl) ?_|refine ⟨rfl,?_⟩|refine And.intro (by first|decide|exact trivial|exact ⟨_,rfl,rfl⟩|exact ⟨rfl,trivial⟩|exact ⟨rfl,rfl,trivial⟩) ?_
      conv => whnf
      refine ⟨⟨i + 1, hlt, fun u hu => ?_⟩, ?_, by show l.length - (i + 1) < l.length - i; omega⟩
      · rw [List.take_succ_eq_append_getElem hlt, List.mem_append] at hu
        rcases hu with hu | hu
        · exact hq u hu
        · rw [List.mem_singleton.1 hu]; exact h2
      · refine Ge.of rfl ?_ ?_
        · repeat (conv => whnf); refine ⟨LE.of rfl, ?_⟩
          trivial
        · repeat (conv => whnf); refine ⟨OLE.of rfl, ?_⟩
          trivial
  · have hge : i = l.length := by have h1 := of_decide_eq_false h1; rw [rws_length] at h1; have h1 : ¬ (i : Int) < (l.length : Int) := h1; omega
    have hq : ∀ u ∈ l, q u = false := fun u hu => hq u (by show u ∈ l.take i; rw [hge, List.take_length]; exact hu)
    have hstop : stopR q l = i := by rw [stopR, takeR_all hq]; omega
    have hall : ixR q l = -1 := by
      have : l.any q = false := by
        rw [← Bool.not_eq_true, List.any_eq_true]
        rintro ⟨u, hu, e⟩
        rw [hq u hu] at e; cases e
      rw [ixR, this]; rfl
    rw [hstop, hall]
    repeat (conv => whnf); first|refine IndepAnd (by kernel_rfl) ?_|refine ⟨rfl,?_⟩|refine And.intro (by first|decide|exact trivial|exact ⟨_,rfl,rfl⟩|exact ⟨rfl,trivial⟩|exact ⟨rfl,rfl,trivial⟩) ?_
    conv => whnf
    exact ⟨gid, ⟨rfl, LE.of rfl⟩, ⟨.inr (.inl rfl), .inr (.inl rfl), .inr (.inl rfl), .inr (.inl rfl), .inr (.inl rfl), .inr (.inl rfl), .inr (.inl rfl), .inr (.inl rfl), .inr (.inl rfl), trivial⟩, rfl, rfl⟩
theorem chainR_ok (V : Vw) (f : FuncId) (q : List Tm → Bool) (h : ∀ r, RowOk r → ∀ d : Dd, d.Ok V → ∃ d' : Dd, d'.Ok V ∧ PM (cx true) f (FVO :: VVO :: KO V d) [lv r, .ptr 2101 0, .ptr 2100 0] (KO V d') (.p (.bool (q r)))) :
    ∀ (l : List (List Tm)) (d : Dd), d.Ok V → (∀ r ∈ l, RowOk r) →
    ∃ ds : Nat → Dd, ds 0 = d ∧ (∀ i, i ≤ l.length → (ds i).Ok V) ∧ ∀ i (hi : i < l.length), PM (cx true) f (FVO :: VVO :: KO V (ds i)) [lv l[i], .ptr 2101 0, .ptr 2100 0] (KO V (ds (i + 1))) (.p (.bool (q l[i])))
  | [], d, hd, _ => ⟨fun _ => d, rfl, fun _ _ => hd, fun i hi => by simp at hi⟩
  | u :: l, d, hd, hr => by
    obtain ⟨d1, h1, h2⟩ := h u (hr u (List.mem_cons_self ..)) d hd
    obtain ⟨ds, g1, g2, g3⟩ := chainR_ok V f q h l d1 h1 (fun v hv => hr v (List.mem_cons_of_mem _ hv))
    refine ⟨fun i => match i with | 0 => d | i + 1 => ds i, rfl, fun i hi => ?_, fun i hi => ?_⟩
    · cases i with
      | zero => exact hd
      | succ i => exact g2 i (by simpa using hi)
    · cases i with
      | zero => simp only [List.getElem_cons_zero]; rw [g1]; exact h2
      | succ i => exact g3 i (by simpa using hi)
theorem someR_ok (V : Vw) (f : FuncId) (q : List Tm → Bool) (h : ∀ r, RowOk r → ∀ d : Dd, d.Ok V → ∃ d' : Dd, d'.Ok V ∧ PM (cx true) f (FVO :: VVO :: KO V d) [lv r, .ptr 2101 0, .ptr 2100 0] (KO V d') (.p (.bool (q r))))
    (l : List (List Tm)) (hl : l.length ≤ 9223372036854775807) (hr : ∀ r ∈ l, RowOk r) (d : Dd) (hd : d.Ok V) :
    ∃ d' : Dd, d'.Ok V ∧ PM (cx true) 83 (FVO :: VVO :: KO V d) [.p (.lst (rws l)), .fn f [.ptr 2101 0, .ptr 2100 0]] (KO V d') (.p (.bool (l.any q))) := by
  obtain ⟨ds, g1, g2, g3⟩ := chainR_ok V f q h l d hd hr
  refine ⟨ds (stopR q l), g2 _ (Nat.min_le_left _ _), ?_⟩
  have h := ixr_ok V f q l ds hl g3
  rw [g1] at h
  refine PM_of_vc (cx_ok true) (mixed true) { own := fun q => Nat.beq q 100007 } Tryd.func83 (by kernel_rfl) rfl rfl (by kernel_rfl) rfl ?_
  repeat (conv => whnf); first|refine IndepAnd (by kernel_rfl) ?_|refine ⟨rfl,?_⟩|refine And.intro (by first|decide|exact trivial|exact ⟨_,rfl,rfl⟩|exact ⟨rfl,trivial⟩|exact ⟨rfl,rfl,trivial⟩) ?_
  conv => whnf
  refine ⟨_, MCallVC.pr gid h ⟨LE.of rfl, LE.of rfl, trivial⟩ ⟨.inr (.inl rfl), .inr (.inl rfl), .inr (.inl rfl), .inr (.inl rfl), .inr (.inl rfl), .inr (.inl rfl), .inr (.inl rfl), .inr (.inl rfl), .inr (.inl rfl), .inr (.inl rfl), .inr (.inl rfl), trivial⟩ rfl, ?_⟩
  repeat (conv => whnf); first|refine IndepAnd (by kernel_rfl) ?_|refine ⟨rfl,?_⟩|refine And.intro (by first|decide|exact trivial|exact ⟨_,rfl,rfl⟩|exact ⟨rfl,trivial⟩|exact ⟨rfl,rfl,trivial⟩) ?_
  conv => whnf
  exact ⟨gid, ⟨rfl, LE.of (congrArg (fun b => SV.p (.bool b)) (ixR_nn _ _))⟩, ⟨.inr (.inl rfl), .inr (.inl rfl), .inr (.inl rfl), .inr (.inl rfl), .inr (.inl rfl), .inr (.inl rfl), .inr (.inl rfl), .inr (.inl rfl), .inr (.inl rfl), trivial⟩, rfl, rfl⟩
/-- Is one of some rows all made with the secret, and none without? -/
def gainB (V : Vw) (rows : List (List Tm)) : Bool := rows.any (fun r => r.all (mkC V.s1)) && !rows.any (fun r => r.all (mkC V.s0))
theorem gained_ok (V : Vw) (rows : List (List Tm)) (hl : rows.length ≤ 9223372036854775807) (hr : ∀ r ∈ rows, RowOk r) (d : Dd) (hd : d.Ok V) :
    ∃ d' : Dd, d'.Ok V ∧ PM (cx true) 63 (KO V d) [vwV, .p (.lst (rws rows))] (KO V d') (.p (.bool (gainB V rows))) := by
  obtain ⟨d1, a1, a2⟩ := someR_ok V 84 (fun r => r.all (mkC V.s1)) (fun r h d hd => with_row V r h d hd) rows hl hr d hd
  obtain ⟨d2, b1, b2⟩ := someR_ok V 85 (fun r => r.all (mkC V.s0)) (fun r h d hd => without_row V r h d hd) rows hl hr d1 a1
  refine ⟨d2, b1, ?_⟩
  unfold gainB
  generalize rows.any (fun r => r.all (mkC V.s1)) = x at a2 ⊢
  generalize rows.any (fun r => r.all (mkC V.s0)) = y at b2 ⊢
  refine PM_of_vc (cx_ok true) (mixed true) { own := fun q => Nat.beq q 100010 || Nat.beq q 100013 } Tryd.func63 (by kernel_rfl) rfl rfl (by kernel_rfl) rfl ?_
  repeat (conv => whnf); first|refine IndepAnd (by kernel_rfl) ?_|refine ⟨rfl,?_⟩|refine And.intro (by first|decide|exact trivial|exact ⟨_,rfl,rfl⟩|exact ⟨rfl,trivial⟩|exact ⟨rfl,rfl,trivial⟩) ?_
  conv => whnf
  refine ⟨_, MCallVC.pr (gT [(2100, 2), (2101, 5)]) a2 ⟨LE.of rfl, LE.of rfl, trivial⟩ ⟨.inr (.inr (.inr ⟨_, _, _, rfl, rfl, LE.refl _⟩)), .inr (.inr (.inr ⟨_, _, _, rfl, rfl, LE.refl _⟩)), .inr (.inl rfl), .inr (.inl rfl), .inr (.inl rfl), .inr (.inl rfl), .inr (.inl rfl), .inr (.inl rfl), .inr (.inl rfl), .inr (.inl rfl), .inr (.inl rfl), trivial⟩ rfl, ?_⟩
  repeat (conv => whnf); first|refine IndepAnd (by kernel_rfl) ?_|refine ⟨rfl,?_⟩|refine And.intro (by first|decide|exact trivial|exact ⟨_,rfl,rfl⟩|exact ⟨rfl,trivial⟩|exact ⟨rfl,rfl,trivial⟩) ?_
  conv => whnf
  refine ⟨_, MCallVC.pr (gT [(2100, 2), (2101, 5)]) b2 ⟨LE.of rfl, LE.of rfl, trivial⟩ ⟨.inr (.inr (.inr ⟨_, _, _, rfl, rfl, LE.refl _⟩)), .inr (.inr (.inr ⟨_, _, _, rfl, rfl, LE.refl _⟩)), .inr (.inl rfl), .inr (.inl rfl), .inr (.inl rfl), .inr (.inl rfl), .inr (.inl rfl), .inr (.inl rfl), .inr (.inl rfl), .inr (.inl rfl), .inr (.inl rfl), trivial⟩ rfl, ?_⟩
  repeat (conv => whnf); first|refine IndepAnd (by kernel_rfl) ?_|refine ⟨rfl,?_⟩|refine And.intro (by first|decide|exact trivial|exact ⟨_,rfl,rfl⟩|exact ⟨rfl,trivial⟩|exact ⟨rfl,rfl,trivial⟩) ?_
  conv => whnf
  cases x with
  | true =>
    repeat (conv => whnf); first|refine IndepAnd (by kernel_rfl) ?_|refine ⟨rfl,?_⟩|refine And.intro (by first|decide|exact trivial|exact ⟨_,rfl,rfl⟩|exact ⟨rfl,trivial⟩|exact ⟨rfl,rfl,trivial⟩) ?_
    conv => whnf
    exact ⟨gid, ⟨rfl, LE.of rfl⟩, ⟨.inr (.inl rfl), .inr (.inl rfl), .inr (.inl rfl), .inr (.inl rfl), .inr (.inl rfl), .inr (.inl rfl), .inr (.inl rfl), .inr (.inl rfl), .inr (.inl rfl), trivial⟩, rfl, rfl⟩
  | false =>
    repeat (conv => whnf); first|refine IndepAnd (by kernel_rfl) ?_|refine ⟨rfl,?_⟩|refine And.intro (by first|decide|exact trivial|exact ⟨_,rfl,rfl⟩|exact ⟨rfl,trivial⟩|exact ⟨rfl,rfl,trivial⟩) ?_
    conv => whnf
    exact ⟨gid, ⟨rfl, LE.of rfl⟩, ⟨.inr (.inl rfl), .inr (.inl rfl), .inr (.inl rfl), .inr (.inl rfl), .inr (.inl rfl), .inr (.inl rfl), .inr (.inl rfl), .inr (.inl rfl), .inr (.inl rfl), trivial⟩, rfl, rfl⟩
end Go.Sl
/- mid -/
namespace Go.Sl
open Go Go.Vc Go.Proofs Go.RowKit

structure TmOk (t : Tm) : Prop where
  hf : Fit t
  hw : wt t ≤ 1000000000
theorem TmOk.kid {t u : Tm} (h : TmOk t) (hu : u ∈ t.kids) : TmOk u := ⟨h.hf.kid hu, by have := wts_mem hu; have := wt_eq t; have := h.hw; omega⟩
theorem RowOk.of {l : List Tm} (h : ∀ u ∈ l, TmOk u) (hl : l.length ≤ 9223372036854775807) : RowOk l := ⟨hl, fun u hu => (h u hu).hf, fun u hu => (h u hu).hw⟩
theorem TmOk.kids {t : Tm} (h : TmOk t) : RowOk t.kids := .of (fun u hu => h.kid hu) h.hf.len
theorem TmOk.one {t : Tm} (h : TmOk t) : RowOk [t] := .of (fun u hu => by rw [List.mem_singleton.1 hu]; exact h) (by simp)
theorem TmOk.pub {t x : Tm} (h : TmOk t) (hx : x ∈ t.kids) : TmOk (pubT x) := ⟨.mk (by simp) (by simp) fun u hu => by rw [List.mem_singleton.1 hu]; exact (h.kid hx).hf, by
  have := wts_mem hx
  have h1 := wt_eq t
  have h2 := wt_eq (pubT x)
  have := h.hw
  simp only [pubT, Tm.kids, Tm.name, wts, List.length_nil] at h2
  show wt (Tm.mk 8 [] [x]) ≤ _
  omega⟩
abbrev tst : Nat → Nat := gid
/-- Is a hash, a mac, a key or a point a test? -/
def partsB (V : Vw) (t : Tm) : Bool := decide (txtT t ∈ V.th) && gainB V [t.kids]
theorem tparts_ok (V : Vw) (t : Tm) (ht : TmOk t) (d : Dd) (hd : d.Ok V) :
    ∃ d' : Dd, d'.Ok V ∧ PM (cx true) 62 (VVO :: KO V d) [tv t, .ptr 2100 0] (KO V d') (.p (.bool (partsB V t))) := by
  obtain ⟨d1, h1, h2⟩ := gained_ok V [t.kids] (by simp) (fun r hr => by rw [List.mem_singleton.1 hr]; exact ht.kids) d hd
  have hT := Text_ok t ht.hf fun _ => text_big ht.hf ht.hw
  unfold partsB
  by_cases h : txtT t ∈ V.th
  · rw [decide_eq_true h, Bool.true_and]
    refine ⟨d1, h1, ?_⟩
    refine PM_of_vc (cx_ok true) (mixed true) { own := fun q => Nat.beq q 100014 } Tryd.func62 (by kernel_rfl) rfl rfl (by kernel_rfl) rfl ?_
    repeat (conv => whnf); first|refine IndepAnd (by kernel_rfl) ?_|refine TreeAnd (by kernel_rfl) ?_|refine ⟨rfl,?_⟩|refine And.intro (by first|decide|exact trivial|exact Nat.le_of_ble_eq_true rfl|exact ⟨_,rfl,rfl⟩|exact ⟨rfl,trivial⟩|exact ⟨rfl,rfl,trivial⟩) ?_
    conv => whnf
    refine ⟨_, CallVC.pr hT rfl rfl, ?_⟩
    repeat (conv => whnf); first|refine IndepAnd (by kernel_rfl) ?_|refine TreeAnd (by kernel_rfl) ?_|refine ⟨rfl,?_⟩|refine And.intro (by first|decide|exact trivial|exact Nat.le_of_ble_eq_true rfl|exact ⟨_,rfl,rfl⟩|exact ⟨rfl,trivial⟩|exact ⟨rfl,rfl,trivial⟩) ?_
    conv => whnf
    refine ⟨_, isM_get (txtT t) V.th, ?_⟩
    rw [if_pos h]
    repeat (conv => whnf); first|refine IndepAnd (by kernel_rfl) ?_|refine TreeAnd (by kernel_rfl) ?_|refine ⟨rfl,?_⟩|refine And.intro (by first|decide|exact trivial|exact Nat.le_of_ble_eq_true rfl|exact ⟨_,rfl,rfl⟩|exact ⟨rfl,trivial⟩|exact ⟨rfl,rfl,trivial⟩) ?_
    conv => whnf
    refine ⟨_, MCallVC.pr gid h2 ⟨LE.of rfl, LE.of rfl, trivial⟩ ⟨.inr (.inl rfl), .inr (.inl rfl), .inr (.inl rfl), .inr (.inl rfl), .inr (.inl rfl), .inr (.inl rfl), .inr (.inl rfl), .inr (.inl rfl), .inr (.inl rfl), trivial⟩ rfl, ?_⟩
    repeat (conv => whnf); first|refine IndepAnd (by kernel_rfl) ?_|refine TreeAnd (by kernel_rfl) ?_|refine ⟨rfl,?_⟩|refine And.intro (by first|decide|exact trivial|exact Nat.le_of_ble_eq_true rfl|exact ⟨_,rfl,rfl⟩|exact ⟨rfl,trivial⟩|exact ⟨rfl,rfl,trivial⟩) ?_
    conv => whnf
    exact ⟨gid, ⟨rfl, LE.of rfl⟩, ⟨.inr (.inl rfl), .inr (.inl rfl), .inr (.inl rfl), .inr (.inl rfl), .inr (.inl rfl), .inr (.inl rfl), .inr (.inl rfl), .inr (.inl rfl), .inr (.inl rfl), trivial⟩, rfl, rfl⟩
  · rw [decide_eq_false h, Bool.false_and]
    refine ⟨d, hd, ?_⟩
    refine PM_of_vc (cx_ok true) (mixed true) { own := fun q => Nat.beq q 100014 } Tryd.func62 (by kernel_rfl) rfl rfl (by kernel_rfl) rfl ?_
    repeat (conv => whnf); first|refine IndepAnd (by kernel_rfl) ?_|refine TreeAnd (by kernel_rfl) ?_|refine ⟨rfl,?_⟩|refine And.intro (by first|decide|exact trivial|exact Nat.le_of_ble_eq_true rfl|exact ⟨_,rfl,rfl⟩|exact ⟨rfl,trivial⟩|exact ⟨rfl,rfl,trivial⟩) ?_
    conv => whnf
    refine ⟨_, CallVC.pr hT rfl rfl, ?_⟩
    repeat (conv => whnf); first|refine IndepAnd (by kernel_rfl) ?_|refine TreeAnd (by kernel_rfl) ?_|refine ⟨rfl,?_⟩|refine And.intro (by first|decide|exact trivial|exact Nat.le_of_ble_eq_true rfl|exact ⟨_,rfl,rfl⟩|exact ⟨rfl,trivial⟩|exact ⟨rfl,rfl,trivial⟩) ?_
    conv => whnf
    refine ⟨_, isM_get (txtT t) V.th, ?_⟩
    rw [if_neg h]
    repeat (conv => whnf); first|refine IndepAnd (by kernel_rfl) ?_|refine TreeAnd (by kernel_rfl) ?_|refine ⟨rfl,?_⟩|refine And.intro (by first|decide|exact trivial|exact Nat.le_of_ble_eq_true rfl|exact ⟨_,rfl,rfl⟩|exact ⟨rfl,trivial⟩|exact ⟨rfl,rfl,trivial⟩) ?_
    conv => whnf
    exact ⟨gid, ⟨rfl, LE.of rfl⟩, ⟨.inr (.inl rfl), .inr (.inl rfl), .inr (.inl rfl), .inr (.inl rfl), .inr (.inl rfl), .inr (.inl rfl), .inr (.inl rfl), .inr (.inl rfl), .inr (.inl rfl), trivial⟩, rfl, rfl⟩
theorem tenc_ok (V : Vw) (t x y : Tm) (ht : TmOk t) (e : t.kids = [x, y]) (d : Dd) (hd : d.Ok V) :
    ∃ d' : Dd, d'.Ok V ∧ PM (cx true) 64 (VVO :: KO V d) [tv t, .ptr 2100 0] (KO V d') (.p (.bool (gainB V [[x]]))) := by
  have hx : x ∈ t.kids := by rw [e]; simp
  obtain ⟨d1, h1, h2⟩ := gained_ok V [[x]] (by simp) (fun r hr => by rw [List.mem_singleton.1 hr]; exact (ht.kid hx).one) d hd
  have hk : tmvs t.kids = [TV x, TV y] := by rw [e]; exact (tmvs2 x y).symm
  refine ⟨d1, h1, ?_⟩
  have h2 : PM (cx true) 63 (KO V d) [vwV, .p (.lst [.lst [TV x]])] (KO V d1) (.p (.bool (gainB V [[x]]))) := by
    have e : rws [[x]] = [.lst [TV x]] := by rw [tmvs1 x]; rfl
    rw [← e]; exact h2
  refine PM_of_vc (cx_ok true) (mixed true) { own := fun q => Nat.beq q 100009 } Tryd.func64 (by kernel_rfl) rfl rfl (by kernel_rfl) rfl ?_
  repeat (conv => whnf); first|refine IndepAnd (by kernel_rfl) ?_|refine TreeAnd (by kernel_rfl) ?_|refine ⟨rfl,?_⟩|refine And.intro (by first|decide|exact trivial|exact Nat.le_of_ble_eq_true rfl|exact ⟨_,rfl,rfl⟩|exact ⟨rfl,trivial⟩|exact ⟨rfl,rfl,trivial⟩) ?_
  conv => whnf
  rw [hk]
  repeat (conv => whnf); first|refine IndepAnd (by kernel_rfl) ?_|refine TreeAnd (by kernel_rfl) ?_|refine ⟨rfl,?_⟩|refine And.intro (by first|decide|exact trivial|exact Nat.le_of_ble_eq_true rfl|exact ⟨_,rfl,rfl⟩|exact ⟨rfl,trivial⟩|exact ⟨rfl,rfl,trivial⟩) ?_
  conv => whnf
  refine ⟨⟨tiTerm, rfl, rfl, rfl, trivial⟩, ?_⟩
  repeat (conv => whnf); first|refine IndepAnd (by kernel_rfl) ?_|refine TreeAnd (by kernel_rfl) ?_|refine ⟨rfl,?_⟩|refine And.intro (by first|decide|exact trivial|exact Nat.le_of_ble_eq_true rfl|exact ⟨_,rfl,rfl⟩|exact ⟨rfl,trivial⟩|exact ⟨rfl,rfl,trivial⟩) ?_
  conv => whnf
  refine ⟨_, MCallVC.pr gid h2 ⟨LE.of rfl, LE.of rfl, trivial⟩ ⟨.inr (.inl rfl), .inr (.inl rfl), .inr (.inl rfl), .inr (.inl rfl), .inr (.inl rfl), .inr (.inl rfl), .inr (.inl rfl), .inr (.inl rfl), .inr (.inl rfl), trivial⟩ rfl, ?_⟩
  repeat (conv => whnf); first|refine IndepAnd (by kernel_rfl) ?_|refine TreeAnd (by kernel_rfl) ?_|refine ⟨rfl,?_⟩|refine And.intro (by first|decide|exact trivial|exact Nat.le_of_ble_eq_true rfl|exact ⟨_,rfl,rfl⟩|exact ⟨rfl,trivial⟩|exact ⟨rfl,rfl,trivial⟩) ?_
  conv => whnf
  exact ⟨gid, ⟨rfl, LE.of rfl⟩, ⟨.inr (.inl rfl), .inr (.inl rfl), .inr (.inl rfl), .inr (.inl rfl), .inr (.inl rfl), .inr (.inl rfl), .inr (.inl rfl), .inr (.inl rfl), .inr (.inl rfl), trivial⟩, rfl, rfl⟩
/-- Is a share a test? -/
def shareB (V : Vw) (t x y : Tm) : Bool := decide (txtT t ∈ V.th) && gainB V [[x, pubT y], [y, pubT x]]
theorem tshare_ok (V : Vw) (t x y : Tm) (ht : TmOk t) (e : t.kids = [x, y]) (d : Dd) (hd : d.Ok V) :
    ∃ d' : Dd, d'.Ok V ∧ PM (cx true) 65 (VVO :: KO V d) [tv t, .ptr 2100 0] (KO V d') (.p (.bool (shareB V t x y))) := by
  have hx : x ∈ t.kids := by rw [e]; simp
  have hy : y ∈ t.kids := by rw [e]; simp
  obtain ⟨d1, h1, h2⟩ := gained_ok V [[x, pubT y], [y, pubT x]] (by simp) (fun r hr => by
    rcases List.mem_cons.1 hr with rfl | hr
    · exact .of (fun u hu => by rcases List.mem_cons.1 hu with rfl | hu; exact ht.kid hx; rw [List.mem_singleton.1 hu]; exact ht.pub hy) (by simp)
    · rw [List.mem_singleton.1 hr]
      exact .of (fun u hu => by rcases List.mem_cons.1 hu with rfl | hu; exact ht.kid hy; rw [List.mem_singleton.1 hu]; exact ht.pub hx) (by simp)) d hd
  have hk : tmvs t.kids = [TV x, TV y] := by rw [e]; exact (tmvs2 x y).symm
  have h2 : PM (cx true) 63 (KO V d) [vwV, .p (.lst [.lst [TV x, TV (pubT y)], .lst [TV y, TV (pubT x)]])] (KO V d1) (.p (.bool (gainB V [[x, pubT y], [y, pubT x]]))) := by
    have e : rws [[x, pubT y], [y, pubT x]] = [.lst [TV x, TV (pubT y)], .lst [TV y, TV (pubT x)]] := by rw [tmvs2, tmvs2]; rfl
    rw [← e]; exact h2
  have hT := Text_ok t ht.hf fun _ => text_big ht.hf ht.hw
  have e2 : TV t = .agg [.int .i64 t.kind, .str t.name, .lst [TV x, TV y]] := by rw [TV, hk]
  rw [tv, e2] at hT
  unfold shareB
  by_cases h : txtT t ∈ V.th
  · rw [decide_eq_true h, Bool.true_and]
    refine ⟨d1, h1, ?_⟩
    refine PM_of_vc (cx_ok true) (mixed true) { own := fun q => Nat.beq q 100030, ps := psT [(1, [4, 5])] } Tryd.func65 (by kernel_rfl) rfl rfl (by kernel_rfl) rfl ?_
    repeat (conv => whnf); first|refine IndepAnd (by kernel_rfl) ?_|refine TreeAnd (by kernel_rfl) ?_|refine ⟨rfl,?_⟩|refine And.intro (by first|decide|exact trivial|exact Nat.le_of_ble_eq_true rfl|exact ⟨_,rfl,rfl⟩|exact ⟨rfl,trivial⟩|exact ⟨rfl,rfl,trivial⟩) ?_
    conv => whnf
    rw [hk]
    repeat (conv => whnf); first|refine IndepAnd (by kernel_rfl) ?_|refine TreeAnd (by kernel_rfl) ?_|refine ⟨rfl,?_⟩|refine And.intro (by first|decide|exact trivial|exact Nat.le_of_ble_eq_true rfl|exact ⟨_,rfl,rfl⟩|exact ⟨rfl,trivial⟩|exact ⟨rfl,rfl,trivial⟩) ?_
    conv => whnf
    refine ⟨_, rfl, rfl, rfl, ?_⟩
    repeat (conv => whnf); first|refine IndepAnd (by kernel_rfl) ?_|refine TreeAnd (by kernel_rfl) ?_|refine ⟨rfl,?_⟩|refine And.intro (by first|decide|exact trivial|exact Nat.le_of_ble_eq_true rfl|exact ⟨_,rfl,rfl⟩|exact ⟨rfl,trivial⟩|exact ⟨rfl,rfl,trivial⟩) ?_
    conv => whnf
    refine ⟨_, rfl, rfl, rfl, ?_⟩
    repeat (conv => whnf); first|refine IndepAnd (by kernel_rfl) ?_|refine TreeAnd (by kernel_rfl) ?_|refine ⟨rfl,?_⟩|refine And.intro (by first|decide|exact trivial|exact Nat.le_of_ble_eq_true rfl|exact ⟨_,rfl,rfl⟩|exact ⟨rfl,trivial⟩|exact ⟨rfl,rfl,trivial⟩) ?_
    conv => whnf
    refine ⟨_, CallVC.pr hT rfl rfl, ?_⟩
    repeat (conv => whnf); first|refine IndepAnd (by kernel_rfl) ?_|refine TreeAnd (by kernel_rfl) ?_|refine ⟨rfl,?_⟩|refine And.intro (by first|decide|exact trivial|exact Nat.le_of_ble_eq_true rfl|exact ⟨_,rfl,rfl⟩|exact ⟨rfl,trivial⟩|exact ⟨rfl,rfl,trivial⟩) ?_
    conv => whnf
    refine ⟨_, isM_get (txtT t) V.th, ?_⟩
    rw [if_pos h]
    repeat (conv => whnf); first|refine IndepAnd (by kernel_rfl) ?_|refine TreeAnd (by kernel_rfl) ?_|refine ⟨rfl,?_⟩|refine And.intro (by first|decide|exact trivial|exact Nat.le_of_ble_eq_true rfl|exact ⟨_,rfl,rfl⟩|exact ⟨rfl,trivial⟩|exact ⟨rfl,rfl,trivial⟩) ?_
    conv => whnf
    refine ⟨_, CallVC.pr (pub_ok true y) rfl rfl, ?_⟩
    repeat (conv => whnf); first|refine IndepAnd (by kernel_rfl) ?_|refine TreeAnd (by kernel_rfl) ?_|refine ⟨rfl,?_⟩|refine And.intro (by first|decide|exact trivial|exact Nat.le_of_ble_eq_true rfl|exact ⟨_,rfl,rfl⟩|exact ⟨rfl,trivial⟩|exact ⟨rfl,rfl,trivial⟩) ?_
    conv => whnf
    refine ⟨_, CallVC.pr (pub_ok true x) rfl rfl, ?_⟩
    repeat (conv => whnf); first|refine IndepAnd (by kernel_rfl) ?_|refine TreeAnd (by kernel_rfl) ?_|refine ⟨rfl,?_⟩|refine And.intro (by first|decide|exact trivial|exact Nat.le_of_ble_eq_true rfl|exact ⟨_,rfl,rfl⟩|exact ⟨rfl,trivial⟩|exact ⟨rfl,rfl,trivial⟩) ?_
    conv => whnf
    refine ⟨_, MCallVC.pr gid h2 ⟨LE.of rfl, LE.of rfl, trivial⟩ ⟨.inr (.inl rfl), .inr (.inl rfl), .inr (.inl rfl), .inr (.inl rfl), .inr (.inl rfl), .inr (.inl rfl), .inr (.inl rfl), .inr (.inl rfl), .inr (.inl rfl), trivial⟩ rfl, ?_⟩
    repeat (conv => whnf); first|refine IndepAnd (by kernel_rfl) ?_|refine TreeAnd (by kernel_rfl) ?_|refine ⟨rfl,?_⟩|refine And.intro (by first|decide|exact trivial|exact Nat.le_of_ble_eq_true rfl|exact ⟨_,rfl,rfl⟩|exact ⟨rfl,trivial⟩|exact ⟨rfl,rfl,trivial⟩) ?_
    conv => whnf
    exact ⟨gid, ⟨rfl, LE.of rfl⟩, ⟨.inr (.inl rfl), .inr (.inl rfl), .inr (.inl rfl), .inr (.inl rfl), .inr (.inl rfl), .inr (.inl rfl), .inr (.inl rfl), .inr (.inl rfl), .inr (.inl rfl), trivial⟩, rfl, rfl⟩
  · rw [decide_eq_false h, Bool.false_and]
    refine ⟨d, hd, ?_⟩
    refine PM_of_vc (cx_ok true) (mixed true) { own := fun q => Nat.beq q 100030, ps := psT [(1, [4, 5])] } Tryd.func65 (by kernel_rfl) rfl rfl (by kernel_rfl) rfl ?_
    repeat (conv => whnf); first|refine IndepAnd (by kernel_rfl) ?_|refine TreeAnd (by kernel_rfl) ?_|refine ⟨rfl,?_⟩|refine And.intro (by first|decide|exact trivial|exact Nat.le_of_ble_eq_true rfl|exact ⟨_,rfl,rfl⟩|exact ⟨rfl,trivial⟩|exact ⟨rfl,rfl,trivial⟩) ?_
    conv => whnf
    rw [hk]
    repeat (conv => whnf); first|refine IndepAnd (by kernel_rfl) ?_|refine TreeAnd (by kernel_rfl) ?_|refine ⟨rfl,?_⟩|refine And.intro (by first|decide|exact trivial|exact Nat.le_of_ble_eq_true rfl|exact ⟨_,rfl,rfl⟩|exact ⟨rfl,trivial⟩|exact ⟨rfl,rfl,trivial⟩) ?_
    conv => whnf
    refine ⟨_, rfl, rfl, rfl, ?_⟩
    repeat (conv => whnf); first|refine IndepAnd (by kernel_rfl) ?_|refine TreeAnd (by kernel_rfl) ?_|refine ⟨rfl,?_⟩|refine And.intro (by first|decide|exact trivial|exact Nat.le_of_ble_eq_true rfl|exact ⟨_,rfl,rfl⟩|exact ⟨rfl,trivial⟩|exact ⟨rfl,rfl,trivial⟩) ?_
    conv => whnf
    refine ⟨_, rfl, rfl, rfl, ?_⟩
    repeat (conv => whnf); first|refine IndepAnd (by kernel_rfl) ?_|refine TreeAnd (by kernel_rfl) ?_|refine ⟨rfl,?_⟩|refine And.intro (by first|decide|exact trivial|exact Nat.le_of_ble_eq_true rfl|exact ⟨_,rfl,rfl⟩|exact ⟨rfl,trivial⟩|exact ⟨rfl,rfl,trivial⟩) ?_
    conv => whnf
    refine ⟨_, CallVC.pr hT rfl rfl, ?_⟩
    repeat (conv => whnf); first|refine IndepAnd (by kernel_rfl) ?_|refine TreeAnd (by kernel_rfl) ?_|refine ⟨rfl,?_⟩|refine And.intro (by first|decide|exact trivial|exact Nat.le_of_ble_eq_true rfl|exact ⟨_,rfl,rfl⟩|exact ⟨rfl,trivial⟩|exact ⟨rfl,rfl,trivial⟩) ?_
    conv => whnf
    refine ⟨_, isM_get (txtT t) V.th, ?_⟩
    rw [if_neg h]
    repeat (conv => whnf); first|refine IndepAnd (by kernel_rfl) ?_|refine TreeAnd (by kernel_rfl) ?_|refine ⟨rfl,?_⟩|refine And.intro (by first|decide|exact trivial|exact Nat.le_of_ble_eq_true rfl|exact ⟨_,rfl,rfl⟩|exact ⟨rfl,trivial⟩|exact ⟨rfl,rfl,trivial⟩) ?_
    conv => whnf
    exact ⟨gid, ⟨rfl, LE.of rfl⟩, ⟨.inr (.inl rfl), .inr (.inl rfl), .inr (.inl rfl), .inr (.inl rfl), .inr (.inl rfl), .inr (.inl rfl), .inr (.inl rfl), .inr (.inl rfl), .inr (.inl rfl), trivial⟩, rfl, rfl⟩
/-- Is what is masked a test? -/
def maskB (V : Vw) (t x y : Tm) : Bool := decide (txtT t ∈ V.th) && (mkC V.s0 x && gainB V [[y]])
theorem tmask_ok (V : Vw) (t x y : Tm) (ht : TmOk t) (e : t.kids = [x, y]) (d : Dd) (hd : d.Ok V) :
    ∃ d' : Dd, d'.Ok V ∧ PM (cx true) 66 (VVO :: KO V d) [tv t, .ptr 2100 0] (KO V d') (.p (.bool (maskB V t x y))) := by
  have hx : x ∈ t.kids := by rw [e]; simp
  have hy : y ∈ t.kids := by rw [e]; simp
  have hk : tmvs t.kids = [TV x, TV y] := by rw [e]; exact (tmvs2 x y).symm
  have hT := Text_ok t ht.hf fun _ => text_big ht.hf ht.hw
  have hx' := ht.kid hx
  obtain ⟨D', a1, a2⟩ := Makes_ok V.l0 V.s0 x hx'.hf hx'.hw d.d0 hd.h0
  obtain ⟨d2, b1, b2⟩ := gained_ok V [[y]] (by simp) (fun r hr => by rw [List.mem_singleton.1 hr]; exact (ht.kid hy).one) ⟨D', d.d1⟩ ⟨a1, hd.h1⟩
  have b2 : PM (cx true) 63 (KO V ⟨D', d.d1⟩) [vwV, .p (.lst [.lst [TV y]])] (KO V d2) (.p (.bool (gainB V [[y]]))) := by
    have e : rws [[y]] = [.lst [TV y]] := by rw [tmvs1 y]; rfl
    rw [← e]; exact b2
  unfold maskB
  by_cases h : txtT t ∈ V.th
  · rw [decide_eq_true h, Bool.true_and]
    cases hm : mkC V.s0 x with
    | true =>
      rw [Bool.true_and]
      rw [show mkB V.s0 (canT x) = true from hm] at a2
      refine ⟨d2, b1, ?_⟩
      refine PM_of_vc (cx_ok true) (mixed true) { own := fun q => Nat.beq q 100016 || Nat.beq q 100024 } Tryd.func66 (by kernel_rfl) rfl rfl (by kernel_rfl) rfl ?_
      repeat (conv => whnf); first|refine IndepAnd (by kernel_rfl) ?_|refine TreeAnd (by kernel_rfl) ?_|refine ⟨rfl,?_⟩|refine And.intro (by first|decide|exact trivial|exact Nat.le_of_ble_eq_true rfl|exact ⟨_,rfl,rfl⟩|exact ⟨rfl,trivial⟩|exact ⟨rfl,rfl,trivial⟩) ?_
      conv => whnf
      refine ⟨_, CallVC.pr hT rfl rfl, ?_⟩
      repeat (conv => whnf); first|refine IndepAnd (by kernel_rfl) ?_|refine TreeAnd (by kernel_rfl) ?_|refine ⟨rfl,?_⟩|refine And.intro (by first|decide|exact trivial|exact Nat.le_of_ble_eq_true rfl|exact ⟨_,rfl,rfl⟩|exact ⟨rfl,trivial⟩|exact ⟨rfl,rfl,trivial⟩) ?_
      conv => whnf
      refine ⟨_, isM_get (txtT t) V.th, ?_⟩
      rw [if_pos h]
      repeat (conv => whnf); first|refine IndepAnd (by kernel_rfl) ?_|refine TreeAnd (by kernel_rfl) ?_|refine ⟨rfl,?_⟩|refine And.intro (by first|decide|exact trivial|exact Nat.le_of_ble_eq_true rfl|exact ⟨_,rfl,rfl⟩|exact ⟨rfl,trivial⟩|exact ⟨rfl,rfl,trivial⟩) ?_
      conv => whnf
      rw [hk]
      repeat (conv => whnf); first|refine IndepAnd (by kernel_rfl) ?_|refine TreeAnd (by kernel_rfl) ?_|refine ⟨rfl,?_⟩|refine And.intro (by first|decide|exact trivial|exact Nat.le_of_ble_eq_true rfl|exact ⟨_,rfl,rfl⟩|exact ⟨rfl,trivial⟩|exact ⟨rfl,rfl,trivial⟩) ?_
      conv => whnf
      refine ⟨_, rfl, rfl, rfl, ?_⟩
      repeat (conv => whnf); first|refine IndepAnd (by kernel_rfl) ?_|refine TreeAnd (by kernel_rfl) ?_|refine ⟨rfl,?_⟩|refine And.intro (by first|decide|exact trivial|exact Nat.le_of_ble_eq_true rfl|exact ⟨_,rfl,rfl⟩|exact ⟨rfl,trivial⟩|exact ⟨rfl,rfl,trivial⟩) ?_
      conv => whnf
      refine ⟨_, MCallVC.pr gid a2 ⟨LE.of rfl, LE.of rfl, trivial⟩ ⟨.inr (.inl rfl), .inr (.inl rfl), .inr (.inl rfl), .inr (.inl rfl), trivial⟩ rfl, ?_⟩
      repeat (conv => whnf); first|refine IndepAnd (by kernel_rfl) ?_|refine TreeAnd (by kernel_rfl) ?_|refine ⟨rfl,?_⟩|refine And.intro (by first|decide|exact trivial|exact Nat.le_of_ble_eq_true rfl|exact ⟨_,rfl,rfl⟩|exact ⟨rfl,trivial⟩|exact ⟨rfl,rfl,trivial⟩) ?_
      conv => whnf
      refine ⟨⟨tiTerm, rfl, rfl, rfl, trivial⟩, ?_⟩
      repeat (conv => whnf); first|refine IndepAnd (by kernel_rfl) ?_|refine TreeAnd (by kernel_rfl) ?_|refine ⟨rfl,?_⟩|refine And.intro (by first|decide|exact trivial|exact Nat.le_of_ble_eq_true rfl|exact ⟨_,rfl,rfl⟩|exact ⟨rfl,trivial⟩|exact ⟨rfl,rfl,trivial⟩) ?_
      conv => whnf
      refine ⟨_, MCallVC.pr gid b2 ⟨LE.of rfl, LE.of rfl, trivial⟩ ⟨.inr (.inl rfl), .inr (.inl rfl), .inr (.inl rfl), .inr (.inl rfl), .inr (.inl rfl), .inr (.inl rfl), .inr (.inl rfl), .inr (.inl rfl), .inr (.inl rfl), trivial⟩ rfl, ?_⟩
      repeat (conv => whnf); first|refine IndepAnd (by kernel_rfl) ?_|refine TreeAnd (by kernel_rfl) ?_|refine ⟨rfl,?_⟩|refine And.intro (by first|decide|exact trivial|exact Nat.le_of_ble_eq_true rfl|exact ⟨_,rfl,rfl⟩|exact ⟨rfl,trivial⟩|exact ⟨rfl,rfl,trivial⟩) ?_
      conv => whnf
      exact ⟨gid, ⟨rfl, LE.of rfl⟩, ⟨.inr (.inl rfl), .inr (.inl rfl), .inr (.inl rfl), .inr (.inl rfl), .inr (.inl rfl), .inr (.inl rfl), .inr (.inl rfl), .inr (.inl rfl), .inr (.inl rfl), trivial⟩, rfl, rfl⟩
    | false =>
      rw [Bool.false_and]
      rw [show mkB V.s0 (canT x) = false from hm] at a2
      refine ⟨⟨D', d.d1⟩, ⟨a1, hd.h1⟩, ?_⟩
      refine PM_of_vc (cx_ok true) (mixed true) { own := fun q => Nat.beq q 100016 || Nat.beq q 100024 } Tryd.func66 (by kernel_rfl) rfl rfl (by kernel_rfl) rfl ?_
      repeat (conv => whnf); first|refine IndepAnd (by kernel_rfl) ?_|refine TreeAnd (by kernel_rfl) ?_|refine ⟨rfl,?_⟩|refine And.intro (by first|decide|exact trivial|exact Nat.le_of_ble_eq_true rfl|exact ⟨_,rfl,rfl⟩|exact ⟨rfl,trivial⟩|exact ⟨rfl,rfl,trivial⟩) ?_
      conv => whnf
      refine ⟨_, CallVC.pr hT rfl rfl, ?_⟩
      repeat (conv => whnf); first|refine IndepAnd (by kernel_rfl) ?_|refine TreeAnd (by kernel_rfl) ?_|refine ⟨rfl,?_⟩|refine And.intro (by first|decide|exact trivial|exact Nat.le_of_ble_eq_true rfl|exact ⟨_,rfl,rfl⟩|exact ⟨rfl,trivial⟩|exact ⟨rfl,rfl,trivial⟩) ?_
      conv => whnf
      refine ⟨_, isM_get (txtT t) V.th, ?_⟩
      rw [if_pos h]
      repeat (conv => whnf); first|refine IndepAnd (by kernel_rfl) ?_|refine TreeAnd (by kernel_rfl) ?_|refine ⟨rfl,?_⟩|refine And.intro (by first|decide|exact trivial|exact Nat.le_of_ble_eq_true rfl|exact ⟨_,rfl,rfl⟩|exact ⟨rfl,trivial⟩|exact ⟨rfl,rfl,trivial⟩) ?_
      conv => whnf
      rw [hk]
      repeat (conv => whnf); first|refine IndepAnd (by kernel_rfl) ?_|refine TreeAnd (by kernel_rfl) ?_|refine ⟨rfl,?_⟩|refine And.intro (by first|decide|exact trivial|exact Nat.le_of_ble_eq_true rfl|exact ⟨_,rfl,rfl⟩|exact ⟨rfl,trivial⟩|exact ⟨rfl,rfl,trivial⟩) ?_
      conv => whnf
      refine ⟨_, rfl, rfl, rfl, ?_⟩
      repeat (conv => whnf); first|refine IndepAnd (by kernel_rfl) ?_|refine TreeAnd (by kernel_rfl) ?_|refine ⟨rfl,?_⟩|refine And.intro (by first|decide|exact trivial|exact Nat.le_of_ble_eq_true rfl|exact ⟨_,rfl,rfl⟩|exact ⟨rfl,trivial⟩|exact ⟨rfl,rfl,trivial⟩) ?_
      conv => whnf
      refine ⟨_, MCallVC.pr gid a2 ⟨LE.of rfl, LE.of rfl, trivial⟩ ⟨.inr (.inl rfl), .inr (.inl rfl), .inr (.inl rfl), .inr (.inl rfl), trivial⟩ rfl, ?_⟩
      repeat (conv => whnf); first|refine IndepAnd (by kernel_rfl) ?_|refine TreeAnd (by kernel_rfl) ?_|refine ⟨rfl,?_⟩|refine And.intro (by first|decide|exact trivial|exact Nat.le_of_ble_eq_true rfl|exact ⟨_,rfl,rfl⟩|exact ⟨rfl,trivial⟩|exact ⟨rfl,rfl,trivial⟩) ?_
      conv => whnf
      exact ⟨gid, ⟨rfl, LE.of rfl⟩, ⟨.inr (.inl rfl), .inr (.inl rfl), .inr (.inl rfl), .inr (.inl rfl), .inr (.inl rfl), .inr (.inl rfl), .inr (.inl rfl), .inr (.inl rfl), .inr (.inl rfl), trivial⟩, rfl, rfl⟩
  · rw [decide_eq_false h, Bool.false_and]
    refine ⟨d, hd, ?_⟩
    refine PM_of_vc (cx_ok true) (mixed true) { own := fun q => Nat.beq q 100016 || Nat.beq q 100024 } Tryd.func66 (by kernel_rfl) rfl rfl (by kernel_rfl) rfl ?_
    repeat (conv => whnf); first|refine IndepAnd (by kernel_rfl) ?_|refine TreeAnd (by kernel_rfl) ?_|refine ⟨rfl,?_⟩|refine And.intro (by first|decide|exact trivial|exact Nat.le_of_ble_eq_true rfl|exact ⟨_,rfl,rfl⟩|exact ⟨rfl,trivial⟩|exact ⟨rfl,rfl,trivial⟩) ?_
    conv => whnf
    refine ⟨_, CallVC.pr hT rfl rfl, ?_⟩
    repeat (conv => whnf); first|refine IndepAnd (by kernel_rfl) ?_|refine TreeAnd (by kernel_rfl) ?_|refine ⟨rfl,?_⟩|refine And.intro (by first|decide|exact trivial|exact Nat.le_of_ble_eq_true rfl|exact ⟨_,rfl,rfl⟩|exact ⟨rfl,trivial⟩|exact ⟨rfl,rfl,trivial⟩) ?_
    conv => whnf
    refine ⟨_, isM_get (txtT t) V.th, ?_⟩
    rw [if_neg h]
    repeat (conv => whnf); first|refine IndepAnd (by kernel_rfl) ?_|refine TreeAnd (by kernel_rfl) ?_|refine ⟨rfl,?_⟩|refine And.intro (by first|decide|exact trivial|exact Nat.le_of_ble_eq_true rfl|exact ⟨_,rfl,rfl⟩|exact ⟨rfl,trivial⟩|exact ⟨rfl,rfl,trivial⟩) ?_
    conv => whnf
    exact ⟨gid, ⟨rfl, LE.of rfl⟩, ⟨.inr (.inl rfl), .inr (.inl rfl), .inr (.inl rfl), .inr (.inl rfl), .inr (.inl rfl), .inr (.inl rfl), .inr (.inl rfl), .inr (.inl rfl), .inr (.inl rfl), trivial⟩, rfl, rfl⟩
/-- The tests of all kinds. -/
abbrev tstK : List MK := [.n 4, .n 5, .n 6, .n 7, .n 8, .n 9, .n 10]
abbrev tstX (κ : Nat) : List SV := [.fn 64 [.ptr κ 0], .fn 62 [.ptr κ 0], .fn 62 [.ptr κ 0], .fn 62 [.ptr κ 0], .fn 62 [.ptr κ 0], .fn 65 [.ptr κ 0], .fn 66 [.ptr κ 0]]
theorem tests_ok (V : Vw) (d : Dd) : PM (cx true) 46 (KO V d) [vwV] (KO V d ++ [(2100, .var true 47 vwV), (2030, .fm 49 tstK (tstX 2100))]) (.slc 2030) := by
  refine PM_of_vc (cx_ok true) (mixed true) { own := fun q => Nat.beq q 300005 } Tryd.func46 (by kernel_rfl) rfl rfl (by kernel_rfl) rfl ?_
  repeat (conv => whnf); first|refine IndepAnd (by kernel_rfl) ?_|refine TreeAnd (by kernel_rfl) ?_|refine ⟨rfl,?_⟩|refine And.intro (by first|decide|exact trivial|exact Nat.le_of_ble_eq_true rfl|exact ⟨_,rfl,rfl⟩|exact ⟨rfl,trivial⟩|exact ⟨rfl,rfl,trivial⟩) ?_
  conv => whnf
  exact ⟨gT [(2100, 1), (2030, 5)], ⟨rfl, LE.of rfl⟩, ⟨.inr (.inl rfl), .inr (.inl rfl), .inr (.inl rfl), .inr (.inl rfl), .inr (.inl rfl), .inr (.inl rfl), .inr (.inl rfl), .inr (.inl rfl), .inr (.inl rfl), .inr (.inl rfl), .inr (.inl rfl), trivial⟩, rfl, rfl⟩
end Go.Sl
namespace Go.Sl
open Go Go.Vc Go.Proofs Go.RowKit

def noTm : Tm := .mk 0 [] []
/-- Is a term a test? -/
def tstB (V : Vw) (t : Tm) : Bool :=
  if t.kind = 4 then (match t.kids with | [x, _] => gainB V [[x]] | _ => false) else
  if t.kind = 5 ∨ t.kind = 6 ∨ t.kind = 7 ∨ t.kind = 8 then partsB V t else
  if t.kind = 9 then (match t.kids with | [x, y] => shareB V t x y | _ => false) else
  if t.kind = 10 then (match t.kids with | [x, y] => maskB V t x y | _ => false) else false
/-- Of what kinds are tests? -/
def hasTst (t : Tm) : Bool := decide (4 ≤ t.kind ∧ t.kind ≤ 10)
theorem tst_ok (V : Vw) (t : Tm) (ht : TmOk t) (g : gdT t) (h : hasTst t = true) : ∃ f, (∀ κ, fget (.n t.kind) tstK (tstX κ) = some (.fn f [.ptr κ 0])) ∧
    ∀ d : Dd, d.Ok V → ∃ d' : Dd, d'.Ok V ∧ PM (cx true) f (VVO :: KO V d) [tv t, .ptr 2100 0] (KO V d') (.p (.bool (tstB V t))) := by
  have h := of_decide_eq_true h
  have hc : t.kind = 4 ∨ t.kind = 9 ∨ t.kind = 10 ∨ (t.kind = 5 ∨ t.kind = 6 ∨ t.kind = 7 ∨ t.kind = 8) := by omega
  rcases hc with k | k | k | k
  · obtain ⟨x, y, e⟩ := kids2 g (.inl k)
    refine ⟨64, fun κ => by rw [k]; rfl, fun d hd => ?_⟩
    have : tstB V t = gainB V [[x]] := by unfold tstB; rw [if_pos k, e]
    rw [this]
    exact tenc_ok V t x y ht e d hd
  · obtain ⟨x, y, e⟩ := kids2 g (.inr (.inr (.inl k)))
    refine ⟨65, fun κ => by rw [k]; rfl, fun d hd => ?_⟩
    have : tstB V t = shareB V t x y := by unfold tstB; rw [if_neg (by omega), if_neg (by omega), if_pos k, e]
    rw [this]
    exact tshare_ok V t x y ht e d hd
  · obtain ⟨x, y, e⟩ := kids2 g (.inr (.inr (.inr k)))
    refine ⟨66, fun κ => by rw [k]; rfl, fun d hd => ?_⟩
    have : tstB V t = maskB V t x y := by unfold tstB; rw [if_neg (by omega), if_neg (by omega), if_neg (by omega), if_pos k, e]
    rw [this]
    exact tmask_ok V t x y ht e d hd
  · refine ⟨62, fun κ => by rcases k with k | k | k | k <;> rw [k] <;> rfl, fun d hd => ?_⟩
    have : tstB V t = partsB V t := by unfold tstB; rw [if_neg (by omega), if_pos k]
    rw [this]
    exact tparts_ok V t ht d hd
theorem notst (V : Vw) (t : Tm) (h : hasTst t = false) : tstB V t = false ∧ ∀ κ, fget (.n t.kind) tstK (tstX κ) = none := by
  have h := of_decide_eq_false h
  have hk : ∀ n : Int, 4 ≤ n → n ≤ 10 → ¬ (MK.n t.kind = MK.n n) := fun n h1 h2 e => by injection e with e; omega
  constructor
  · unfold tstB; rw [if_neg (by omega), if_neg (by omega), if_neg (by omega), if_neg (by omega)]
  · intro κ
    simp only [fget, if_neg (hk 4 (by omega) (by omega)), if_neg (hk 5 (by omega) (by omega)), if_neg (hk 6 (by omega) (by omega)), if_neg (hk 7 (by omega) (by omega)), if_neg (hk 8 (by omega) (by omega)), if_neg (hk 9 (by omega) (by omega)), if_neg (hk 10 (by omega) (by omega))]
noncomputable def vwT (l : List Tm) (c : Tm) : Vw := ⟨(ofT (anT l)).l, (ofT (anT l)).s, (ofT (anT (l ++ [c]))).l, (ofT (anT (l ++ [c]))).s, (anT l).map txtT⟩
/-- What a guess can be held against. -/
noncomputable def testT (l : List Tm) (s : Tm) : Tm × Bool :=
  if rightT (canT s) = true then
    if mkC (ofT (anT l)).s (canT s) = true then (canT s, true) else
      match (anT (l ++ [canT s])).find? (tstB (vwT l (canT s))) with
      | some t => (t, true)
      | none => (noTm, false)
  else (noTm, false)
def tsR (x : Tm × Bool) : Res := .tup [TV x.1, .bool x.2]
theorem find_at {q : Tm → Bool} : ∀ {l : List Tm} {i : Nat} (hi : i < l.length), (∀ u ∈ l.take i, q u = false) → q l[i] = true → l.find? q = some l[i]
  | [], i, hi, _, _ => by simp at hi
  | t :: l, 0, hi, _, h => by
    simp at h
    simp [List.find?, h]
  | t :: l, i + 1, hi, h1, h2 => by
    have ht := h1 t (by simp)
    simp only [List.find?, ht]
    rw [find_at (i := i) (by simpa using hi) (fun u hu => h1 u (by simp [hu])) (by simpa using h2)]
    rfl
structure FrmS (l : List Tm) (s : Tm) : Prop where
  f0 : Frm l
  f1 : Frm (l ++ [canT s])
  s : TmOk s
abbrev gTst : Nat → Nat := gT [(2000, 1900), (2001, 1901), (2002, 1902), (2003, 1903), (2010, 1910), (2011, 1911), (2012, 1912), (2013, 1913), (2020, 33), (2100, 1850), (2030, 1851)]
abbrev tcfg : Cfg := { own := fun q => Nat.beq q 24 || Nat.beq q 100030 || Nat.beq q 100032 || Nat.beq q 100038 || Nat.beq q 100052 || Nat.beq q 100068 }
theorem testN_ok {l : List Tm} {s : Tm} (h : FrmS l s) (hr : rightT (canT s) = false) : K true 18 [lv l, tv s] (tsR (testT l s)) := by
  have e : testT l s = (noTm, false) := by unfold testT; rw [hr]; rfl
  rw [e]
  refine PC_of_vc (cx_ok true) (mixed true) tcfg Tryd.func18 (by kernel_rfl) rfl rfl (by kernel_rfl) ?_
  repeat (conv => whnf); first|refine IndepAnd (by kernel_rfl) ?_|refine TreeAnd (by kernel_rfl) ?_|refine ⟨rfl,?_⟩|refine And.intro (by first|decide|exact trivial|exact ⟨rfl,trivial⟩|exact Nat.le_of_ble_eq_true rfl|exact ⟨_,rfl,rfl⟩|exact ⟨rfl,rfl,trivial⟩|exact ⟨rfl,rfl,rfl,trivial⟩|exact ⟨rfl,rfl,rfl,rfl,trivial⟩|exact ⟨rfl,rfl,rfl,rfl,rfl,trivial⟩) ?_
  conv => whnf
  refine ⟨_, CallVC.pr (canon_ok s h.s.hf h.s.hw) rfl rfl, ?_⟩
  repeat (conv => whnf); first|refine IndepAnd (by kernel_rfl) ?_|refine TreeAnd (by kernel_rfl) ?_|refine ⟨rfl,?_⟩|refine And.intro (by first|decide|exact trivial|exact ⟨rfl,trivial⟩|exact Nat.le_of_ble_eq_true rfl|exact ⟨_,rfl,rfl⟩|exact ⟨rfl,rfl,trivial⟩|exact ⟨rfl,rfl,rfl,trivial⟩|exact ⟨rfl,rfl,rfl,rfl,trivial⟩|exact ⟨rfl,rfl,rfl,rfl,rfl,trivial⟩) ?_
  conv => whnf
  refine ⟨_, CallVC.pr (right_big (can_fit s h.s.hf) (by rw [can_wt]; exact h.s.hw) hr) rfl rfl, ?_⟩
  repeat (conv => whnf); first|refine IndepAnd (by kernel_rfl) ?_|refine TreeAnd (by kernel_rfl) ?_|refine ⟨rfl,?_⟩|refine And.intro (by first|decide|exact trivial|exact ⟨rfl,trivial⟩|exact Nat.le_of_ble_eq_true rfl|exact ⟨_,rfl,rfl⟩|exact ⟨rfl,rfl,trivial⟩|exact ⟨rfl,rfl,rfl,trivial⟩|exact ⟨rfl,rfl,rfl,rfl,trivial⟩|exact ⟨rfl,rfl,rfl,rfl,rfl,trivial⟩) ?_
  conv => whnf
  exact ⟨LE_leaf 0 [], LEP.refl _, trivial⟩
theorem can_ok {s : Tm} (h : TmOk s) : TmOk (canT s) := ⟨can_fit s h.hf, by rw [can_wt]; exact h.hw⟩
theorem len_one {l : List Tm} (h : l.length ≤ 2000) : ((tmvs l).length + [PV.agg [.int .i64 0, .str [], .nilS]].length) * 48 ≤ 140737488355328 := by simp only [tmvs_length, List.length_singleton]; omega
theorem testK_ok {l : List Tm} {s : Tm} (h : FrmS l s) (hr : rightT (canT s) = true) (hm : mkC (ofT (anT l)).s (canT s) = true) : K true 18 [lv l, tv s] (tsR (testT l s)) := by
  have e : testT l s = (canT s, true) := by unfold testT; rw [if_pos hr, if_pos hm]
  rw [e]
  have hc := canon_ok s h.s.hf h.s.hw
  have hright := right_big (h.s.hf |> can_fit s) (by rw [can_wt]; exact h.s.hw) hr
  have tc := can_ok h.s
  have hA := analyze_ok h.f0
  have hB := analyze_ok h.f1
  have oA := of_ok (anT l) (an_fit h.f0).1 (an_fit h.f0).2 (by have := an_len h.f0; omega)
  have oB := of_ok (anT (l ++ [canT s])) (an_fit h.f1).1 (an_fit h.f1).2 (by have := an_len h.f1; omega)
  obtain ⟨D', d1, d2⟩ := Makes_ok (ofT (anT l)).l (ofT (anT l)).s (canT s) tc.hf tc.hw (ofT (anT l)).d (of_wk (an_fit h.f0).1 (an_fit h.f0).2).d
  rw [show mkB (ofT (anT l)).s (canT (canT s)) = true from hm] at d2
  have hl : (tmvs l).length ≤ 2000 := by rw [tmvs_length]; exact h.f0.len
  have e1 : tmvs l ++ [TV (canT s)] = tmvs (l ++ [canT s]) := by rw [tmvs_append, tmvs1]
  rw [lv, ← e1] at hB
  refine PC_of_vc (cx_ok true) (mixed true) tcfg Tryd.func18 (by kernel_rfl) rfl rfl (by kernel_rfl) ?_
  repeat (conv => whnf); first|refine IndepAnd (by kernel_rfl) ?_|refine TreeAnd (by kernel_rfl) ?_|refine ⟨rfl,?_⟩|refine And.intro (by first|decide|exact trivial|exact ⟨rfl,trivial⟩|exact Nat.le_of_ble_eq_true rfl|exact ⟨_,rfl,rfl⟩|exact ⟨rfl,rfl,trivial⟩|exact ⟨rfl,rfl,rfl,trivial⟩|exact ⟨rfl,rfl,rfl,rfl,trivial⟩|exact ⟨rfl,rfl,rfl,rfl,rfl,trivial⟩) ?_
  conv => whnf
  refine ⟨_, CallVC.pr hc rfl rfl, ?_⟩
  repeat (conv => whnf); first|refine IndepAnd (by kernel_rfl) ?_|refine TreeAnd (by kernel_rfl) ?_|refine ⟨rfl,?_⟩|refine And.intro (by first|decide|exact trivial|exact ⟨rfl,trivial⟩|exact Nat.le_of_ble_eq_true rfl|exact ⟨_,rfl,rfl⟩|exact ⟨rfl,rfl,trivial⟩|exact ⟨rfl,rfl,rfl,trivial⟩|exact ⟨rfl,rfl,rfl,rfl,trivial⟩|exact ⟨rfl,rfl,rfl,rfl,rfl,trivial⟩) ?_
  conv => whnf
  refine ⟨_, CallVC.pr hright rfl rfl, ?_⟩
  repeat (conv => whnf); first|refine IndepAnd (by kernel_rfl) ?_|refine TreeAnd (by kernel_rfl) ?_|refine ⟨rfl,?_⟩|refine And.intro (by first|decide|exact trivial|exact ⟨rfl,trivial⟩|exact Nat.le_of_ble_eq_true rfl|exact ⟨_,rfl,rfl⟩|exact ⟨rfl,rfl,trivial⟩|exact ⟨rfl,rfl,rfl,trivial⟩|exact ⟨rfl,rfl,rfl,rfl,trivial⟩|exact ⟨rfl,rfl,rfl,rfl,rfl,trivial⟩) ?_
  conv => whnf
  refine ⟨_, CallVC.pr hA rfl rfl, ?_⟩
  repeat (conv => whnf); first|refine IndepAnd (by kernel_rfl) ?_|refine TreeAnd (by kernel_rfl) ?_|refine ⟨rfl,?_⟩|refine And.intro (by first|decide|exact trivial|exact ⟨rfl,trivial⟩|exact Nat.le_of_ble_eq_true rfl|exact ⟨_,rfl,rfl⟩|exact ⟨rfl,rfl,trivial⟩|exact ⟨rfl,rfl,rfl,trivial⟩|exact ⟨rfl,rfl,rfl,rfl,trivial⟩|exact ⟨rfl,rfl,rfl,rfl,rfl,trivial⟩) ?_
  conv => whnf
  refine ⟨_, CallVC.pr (clone_fresh true l (by have := h.f0.len; omega)) rfl rfl, ?_⟩
  repeat (conv => whnf); first|refine IndepAnd (by kernel_rfl) ?_|refine TreeAnd (by kernel_rfl) ?_|refine ⟨rfl,?_⟩|refine And.intro (by first|decide|exact trivial|exact ⟨rfl,trivial⟩|exact Nat.le_of_ble_eq_true rfl|exact ⟨_,rfl,rfl⟩|exact ⟨rfl,rfl,trivial⟩|exact ⟨rfl,rfl,rfl,trivial⟩|exact ⟨rfl,rfl,rfl,rfl,trivial⟩|exact ⟨rfl,rfl,rfl,rfl,rfl,trivial⟩) ?_
  conv => whnf
  refine ⟨by have : ((tmvs l).length + 1) * 48 ≤ 140737488355328 := by omega
             exact this, ?_⟩
  repeat (conv => whnf); first|refine IndepAnd (by kernel_rfl) ?_|refine TreeAnd (by kernel_rfl) ?_|refine ⟨rfl,?_⟩|refine And.intro (by first|decide|exact trivial|exact ⟨rfl,trivial⟩|exact Nat.le_of_ble_eq_true rfl|exact ⟨_,rfl,rfl⟩|exact ⟨rfl,rfl,trivial⟩|exact ⟨rfl,rfl,rfl,trivial⟩|exact ⟨rfl,rfl,rfl,rfl,trivial⟩|exact ⟨rfl,rfl,rfl,rfl,rfl,trivial⟩) ?_
  conv => whnf
  refine ⟨_, CallVC.pr hB rfl rfl, ?_⟩
  repeat (conv => whnf); first|refine IndepAnd (by kernel_rfl) ?_|refine TreeAnd (by kernel_rfl) ?_|refine ⟨rfl,?_⟩|refine And.intro (by first|decide|exact trivial|exact ⟨rfl,trivial⟩|exact Nat.le_of_ble_eq_true rfl|exact ⟨_,rfl,rfl⟩|exact ⟨rfl,rfl,trivial⟩|exact ⟨rfl,rfl,rfl,trivial⟩|exact ⟨rfl,rfl,rfl,rfl,trivial⟩|exact ⟨rfl,rfl,rfl,rfl,rfl,trivial⟩) ?_
  conv => whnf
  refine ⟨_, MCallVC.pr (gT [(2000, 1900), (1001, 1901), (2002, 1902), (2003, 1903)]) oA ⟨LE.of rfl, trivial⟩ trivial rfl, ?_⟩
  repeat (conv => whnf); first|refine IndepAnd (by kernel_rfl) ?_|refine TreeAnd (by kernel_rfl) ?_|refine ⟨rfl,?_⟩|refine And.intro (by first|decide|exact trivial|exact ⟨rfl,trivial⟩|exact Nat.le_of_ble_eq_true rfl|exact ⟨_,rfl,rfl⟩|exact ⟨rfl,rfl,trivial⟩|exact ⟨rfl,rfl,rfl,trivial⟩|exact ⟨rfl,rfl,rfl,rfl,trivial⟩|exact ⟨rfl,rfl,rfl,rfl,rfl,trivial⟩) ?_
  conv => whnf
  refine ⟨_, MCallVC.pr (gT [(2000, 1910), (1001, 1911), (2002, 1912), (2003, 1913)]) oB ⟨LE.of rfl, trivial⟩ trivial rfl, ?_⟩
  repeat (conv => whnf); first|refine IndepAnd (by kernel_rfl) ?_|refine TreeAnd (by kernel_rfl) ?_|refine ⟨rfl,?_⟩|refine And.intro (by first|decide|exact trivial|exact ⟨rfl,trivial⟩|exact Nat.le_of_ble_eq_true rfl|exact ⟨_,rfl,rfl⟩|exact ⟨rfl,rfl,trivial⟩|exact ⟨rfl,rfl,rfl,trivial⟩|exact ⟨rfl,rfl,rfl,rfl,trivial⟩|exact ⟨rfl,rfl,rfl,rfl,rfl,trivial⟩) ?_
  conv => whnf
  refine ⟨_, MCallVC.pr (gT [(2000, 1900), (2001, 1901), (2002, 1902), (2003, 1903)]) d2 ⟨LE.of rfl, LE.of rfl, trivial⟩ ⟨.inr (.inl rfl), .inr (.inl rfl), .inr (.inl rfl), .inr (.inl rfl), trivial⟩ rfl, ?_⟩
  repeat (conv => whnf); first|refine IndepAnd (by kernel_rfl) ?_|refine TreeAnd (by kernel_rfl) ?_|refine ⟨rfl,?_⟩|refine And.intro (by first|decide|exact trivial|exact ⟨rfl,trivial⟩|exact Nat.le_of_ble_eq_true rfl|exact ⟨_,rfl,rfl⟩|exact ⟨rfl,rfl,trivial⟩|exact ⟨rfl,rfl,rfl,trivial⟩|exact ⟨rfl,rfl,rfl,rfl,trivial⟩|exact ⟨rfl,rfl,rfl,rfl,rfl,trivial⟩) ?_
  conv => whnf
  exact ⟨LEP.refl _, LEP.refl _, trivial⟩
theorem txts_nodup {l : List Tm} (h : Frm l) : ((anT l).map txtT).Nodup := by rw [← h.wk.s]; exact h.wk.nd
theorem take_txt {l : List Tm} {i : Nat} (h : i < l.length) : (l.take (i + 1)).map txtT = (l.take i).map txtT ++ [txtT l[i]] := by
  rw [List.take_succ_eq_append_getElem h, List.map_append]; rfl
theorem txt_new {l : List Tm} (h : (l.map txtT).Nodup) {i : Nat} (hi : i < l.length) : txtT l[i] ∉ (l.take i).map txtT := by
  have h1 : (l.take (i + 1)).map txtT = (l.map txtT).take (i + 1) := List.map_take ..
  have h2 := (h.sublist (List.take_sublist (i + 1) _))
  rw [← h1, take_txt hi, List.nodup_append] at h2
  intro hc
  exact h2.2.2 _ hc _ (List.mem_singleton.2 rfl) rfl
set_option maxHeartbeats 1000000 in
theorem testY_ok {l : List Tm} {s : Tm} (h : FrmS l s) (hr : rightT (canT s) = true) (hm : mkC (ofT (anT l)).s (canT s) = false) : K true 18 [lv l, tv s] (tsR (testT l s)) := by
  obtain ⟨A, eA⟩ : ∃ A, A = anT l := ⟨_, rfl⟩
  obtain ⟨B, eB⟩ : ∃ B, B = anT (l ++ [canT s]) := ⟨_, rfl⟩
  obtain ⟨V, eV⟩ : ∃ V, V = vwT l (canT s) := ⟨_, rfl⟩
  have e : testT l s = match B.find? (tstB V) with | some t => (t, true) | none => (noTm, false) := by
    unfold testT; rw [if_pos hr, hm, eB, eV]; rfl
  rw [e]
  have hc := canon_ok s h.s.hf h.s.hw
  have hright := right_big (h.s.hf |> can_fit s) (by rw [can_wt]; exact h.s.hw) hr
  have tc := can_ok h.s
  have hA := analyze_ok h.f0
  have hB := analyze_ok h.f1
  have oA := of_ok (anT l) (an_fit h.f0).1 (an_fit h.f0).2 (by have := an_len h.f0; omega)
  have oB := of_ok (anT (l ++ [canT s])) (an_fit h.f1).1 (an_fit h.f1).2 (by have := an_len h.f1; omega)
  obtain ⟨D', d1, d2⟩ := Makes_ok (ofT (anT l)).l (ofT (anT l)).s (canT s) tc.hf tc.hw (ofT (anT l)).d (of_wk (an_fit h.f0).1 (an_fit h.f0).2).d
  rw [show mkB (ofT (anT l)).s (canT (canT s)) = false from hm] at d2
  have hl : (tmvs l).length ≤ 2000 := by rw [tmvs_length]; exact h.f0.len
  have e1 : tmvs l ++ [TV (canT s)] = tmvs (l ++ [canT s]) := by rw [tmvs_append, tmvs1]
  rw [lv, ← e1] at hB
  have dB := (of_wk (an_fit h.f1).1 (an_fit h.f1).2).d
  have hnd := txts_nodup h.f0
  have tA : ∀ u ∈ anT l, TmOk u := fun u hu => ⟨(an_fit h.f0).1 u hu, (an_fit h.f0).2 u hu⟩
  have tB : ∀ u ∈ anT (l ++ [canT s]), TmOk u := fun u hu => ⟨(an_fit h.f1).1 u hu, (an_fit h.f1).2 u hu⟩
  have gB : ∀ u ∈ anT (l ++ [canT s]), gdT u := an_gd h.f1
  have lA := an_len h.f0
  have lB := an_len h.f1
  unfold vwT at eV
  rw [← eA] at hA oA d2 d1 hnd tA lA eV
  rw [← eB] at hB oB dB tB gB lB eV
  obtain ⟨kA, ekA⟩ : ∃ kA, kA = ofT A := ⟨_, rfl⟩
  obtain ⟨kB, ekB⟩ : ∃ kB, kB = ofT B := ⟨_, rfl⟩
  rw [← ekA] at oA d2 d1 eV
  rw [← ekB] at oB dB eV
  refine PC_of_vc (cx_ok true) (mixed true) tcfg Tryd.func18 (by kernel_rfl) rfl rfl (by kernel_rfl) ?_
  repeat (conv => whnf); first|refine IndepAnd (by kernel_rfl) ?_|refine TreeAnd (by kernel_rfl) ?_|refine ⟨rfl,?_⟩|refine And.intro (by first|decide|exact trivial|exact ⟨rfl,trivial⟩|exact Nat.le_of_ble_eq_true rfl|exact ⟨_,rfl,rfl⟩|exact ⟨rfl,rfl,trivial⟩|exact ⟨rfl,rfl,rfl,trivial⟩|exact ⟨rfl,rfl,rfl,rfl,trivial⟩|exact ⟨rfl,rfl,rfl,rfl,rfl,trivial⟩) ?_
  conv => whnf
  refine ⟨_, CallVC.pr hc rfl rfl, ?_⟩
  repeat (conv => whnf); first|refine IndepAnd (by kernel_rfl) ?_|refine TreeAnd (by kernel_rfl) ?_|refine ⟨rfl,?_⟩|refine And.intro (by first|decide|exact trivial|exact ⟨rfl,trivial⟩|exact Nat.le_of_ble_eq_true rfl|exact ⟨_,rfl,rfl⟩|exact ⟨rfl,rfl,trivial⟩|exact ⟨rfl,rfl,rfl,trivial⟩|exact ⟨rfl,rfl,rfl,rfl,trivial⟩|exact ⟨rfl,rfl,rfl,rfl,rfl,trivial⟩) ?_
  conv => whnf
  refine ⟨_, CallVC.pr hright rfl rfl, ?_⟩
  repeat (conv => whnf); first|refine IndepAnd (by kernel_rfl) ?_|refine TreeAnd (by kernel_rfl) ?_|refine ⟨rfl,?_⟩|refine And.intro (by first|decide|exact trivial|exact ⟨rfl,trivial⟩|exact Nat.le_of_ble_eq_true rfl|exact ⟨_,rfl,rfl⟩|exact ⟨rfl,rfl,trivial⟩|exact ⟨rfl,rfl,rfl,trivial⟩|exact ⟨rfl,rfl,rfl,rfl,trivial⟩|exact ⟨rfl,rfl,rfl,rfl,rfl,trivial⟩) ?_
  conv => whnf
  refine ⟨_, CallVC.pr hA rfl rfl, ?_⟩
  repeat (conv => whnf); first|refine IndepAnd (by kernel_rfl) ?_|refine TreeAnd (by kernel_rfl) ?_|refine ⟨rfl,?_⟩|refine And.intro (by first|decide|exact trivial|exact ⟨rfl,trivial⟩|exact Nat.le_of_ble_eq_true rfl|exact ⟨_,rfl,rfl⟩|exact ⟨rfl,rfl,trivial⟩|exact ⟨rfl,rfl,rfl,trivial⟩|exact ⟨rfl,rfl,rfl,rfl,trivial⟩|exact ⟨rfl,rfl,rfl,rfl,rfl,trivial⟩) ?_
  conv => whnf
  refine ⟨_, CallVC.pr (clone_fresh true l (by have := h.f0.len; omega)) rfl rfl, ?_⟩
  repeat (conv => whnf); first|refine IndepAnd (by kernel_rfl) ?_|refine TreeAnd (by kernel_rfl) ?_|refine ⟨rfl,?_⟩|refine And.intro (by first|decide|exact trivial|exact ⟨rfl,trivial⟩|exact Nat.le_of_ble_eq_true rfl|exact ⟨_,rfl,rfl⟩|exact ⟨rfl,rfl,trivial⟩|exact ⟨rfl,rfl,rfl,trivial⟩|exact ⟨rfl,rfl,rfl,rfl,trivial⟩|exact ⟨rfl,rfl,rfl,rfl,rfl,trivial⟩) ?_
  conv => whnf
  refine ⟨by have : ((tmvs l).length + 1) * 48 ≤ 140737488355328 := by omega
             exact this, ?_⟩
  repeat (conv => whnf); first|refine IndepAnd (by kernel_rfl) ?_|refine TreeAnd (by kernel_rfl) ?_|refine ⟨rfl,?_⟩|refine And.intro (by first|decide|exact trivial|exact ⟨rfl,trivial⟩|exact Nat.le_of_ble_eq_true rfl|exact ⟨_,rfl,rfl⟩|exact ⟨rfl,rfl,trivial⟩|exact ⟨rfl,rfl,rfl,trivial⟩|exact ⟨rfl,rfl,rfl,rfl,trivial⟩|exact ⟨rfl,rfl,rfl,rfl,rfl,trivial⟩) ?_
  conv => whnf
  refine ⟨_, CallVC.pr hB rfl rfl, ?_⟩
  repeat (conv => whnf); first|refine IndepAnd (by kernel_rfl) ?_|refine TreeAnd (by kernel_rfl) ?_|refine ⟨rfl,?_⟩|refine And.intro (by first|decide|exact trivial|exact ⟨rfl,trivial⟩|exact Nat.le_of_ble_eq_true rfl|exact ⟨_,rfl,rfl⟩|exact ⟨rfl,rfl,trivial⟩|exact ⟨rfl,rfl,rfl,trivial⟩|exact ⟨rfl,rfl,rfl,rfl,trivial⟩|exact ⟨rfl,rfl,rfl,rfl,rfl,trivial⟩) ?_
  conv => whnf
  refine ⟨_, MCallVC.pr (gT [(2000, 1900), (1001, 1901), (2002, 1902), (2003, 1903)]) oA ⟨LE.of rfl, trivial⟩ trivial rfl, ?_⟩
  repeat (conv => whnf); first|refine IndepAnd (by kernel_rfl) ?_|refine TreeAnd (by kernel_rfl) ?_|refine ⟨rfl,?_⟩|refine And.intro (by first|decide|exact trivial|exact ⟨rfl,trivial⟩|exact Nat.le_of_ble_eq_true rfl|exact ⟨_,rfl,rfl⟩|exact ⟨rfl,rfl,trivial⟩|exact ⟨rfl,rfl,rfl,trivial⟩|exact ⟨rfl,rfl,rfl,rfl,trivial⟩|exact ⟨rfl,rfl,rfl,rfl,rfl,trivial⟩) ?_
  conv => whnf
  refine ⟨_, MCallVC.pr (gT [(2000, 1910), (1001, 1911), (2002, 1912), (2003, 1913)]) oB ⟨LE.of rfl, trivial⟩ trivial rfl, ?_⟩
  repeat (conv => whnf); first|refine IndepAnd (by kernel_rfl) ?_|refine TreeAnd (by kernel_rfl) ?_|refine ⟨rfl,?_⟩|refine And.intro (by first|decide|exact trivial|exact ⟨rfl,trivial⟩|exact Nat.le_of_ble_eq_true rfl|exact ⟨_,rfl,rfl⟩|exact ⟨rfl,rfl,trivial⟩|exact ⟨rfl,rfl,rfl,trivial⟩|exact ⟨rfl,rfl,rfl,rfl,trivial⟩|exact ⟨rfl,rfl,rfl,rfl,rfl,trivial⟩) ?_
  conv => whnf
  refine ⟨_, MCallVC.pr (gT [(2000, 1900), (2001, 1901), (2002, 1902), (2003, 1903)]) d2 ⟨LE.of rfl, LE.of rfl, trivial⟩ ⟨.inr (.inl rfl), .inr (.inl rfl), .inr (.inl rfl), .inr (.inl rfl), trivial⟩ rfl, ?_⟩
  repeat (conv => whnf); first|refine IndepAnd (by kernel_rfl) ?_|refine TreeAnd (by kernel_rfl) ?_|refine ⟨rfl,?_⟩|refine And.intro (by first|decide|exact trivial|exact ⟨rfl,trivial⟩|exact Nat.le_of_ble_eq_true rfl|exact ⟨_,rfl,rfl⟩|exact ⟨rfl,rfl,trivial⟩|exact ⟨rfl,rfl,rfl,trivial⟩|exact ⟨rfl,rfl,rfl,rfl,trivial⟩|exact ⟨rfl,rfl,rfl,rfl,rfl,trivial⟩) ?_
  conv => whnf
  refine ⟨Rd A.length, fun i => Vc.S.of [(4, .ptr 4 0), (5, .p (.bool false)), (7, lv B), (8, .ptr 8 0), (40, lv A), (41, iv ((tmvs A).length : Int)), (42, iv (i.1 : Int))] [(4, .var true 24 (.p (.agg [.int .i64 0, .str [], .nilS]))), (8, .var true 47 (.mix [.ptr 1900 0, .ptr 1910 0, .slc 33])), (1900, .var true 39 (.mix [.slc 1901, .slc 1902, .slc 1903])), (1901, .row 24 3 (tmvs kA.l)), (1902, .mp 37 true (isM kA.s)), (1903, .mp 37 true (mdM D')), (1910, .var true 39 (.mix [.slc 1911, .slc 1912, .slc 1913])), (1911, .row 24 3 (tmvs kB.l)), (1912, .mp 37 true (isM kB.s)), (1913, .mp 37 true (mdM kB.d)), (33, .mp 37 true (isM ((A.take i.1).map txtT)))], fun i => A.length - i.1, Rd.zero A.length, ?_, ?_⟩
  · refine Ge.of rfl ?_ ?_
    · repeat (conv => whnf); refine ⟨LE.of rfl, ?_⟩
      trivial
    · repeat (conv => whnf); refine ⟨OLE.of rfl, ?_⟩
      trivial
  rintro ⟨i, hi⟩
  repeat (conv => whnf); first|refine IndepAnd (by kernel_rfl) ?_|refine TreeAnd (by kernel_rfl) ?_|refine ⟨rfl,?_⟩|refine And.intro (by first|decide|exact trivial|exact ⟨rfl,trivial⟩|exact Nat.le_of_ble_eq_true rfl|exact ⟨_,rfl,rfl⟩|exact ⟨rfl,rfl,trivial⟩|exact ⟨rfl,rfl,rfl,trivial⟩|exact ⟨rfl,rfl,rfl,rfl,trivial⟩|exact ⟨rfl,rfl,rfl,rfl,rfl,trivial⟩) ?_
  conv => whnf
  refine @bool_rec _ _ _ ?_ ?_ <;> intro h1
  · have hlt : i < A.length := by have := of_decide_eq_true h1; rw [tmvs_length] at this; exact Int.ofNat_lt.1 this
    have ht := tA _ (List.getElem_mem hlt)
    repeat (conv => whnf); first|refine IndepAnd (by kernel_rfl) ?_|refine TreeAnd (by kernel_rfl) ?_|refine ⟨rfl,?_⟩|refine And.intro (by first|decide|exact trivial|exact ⟨rfl,trivial⟩|exact Nat.le_of_ble_eq_true rfl|exact ⟨_,rfl,rfl⟩|exact ⟨rfl,rfl,trivial⟩|exact ⟨rfl,rfl,rfl,trivial⟩|exact ⟨rfl,rfl,rfl,rfl,trivial⟩|exact ⟨rfl,rfl,rfl,rfl,rfl,trivial⟩) ?_
    conv => whnf
    refine ⟨Int.natCast_nonneg _, TV A[i], tmvs_getN hlt, rfl, rfl, ?_⟩
    repeat (conv => whnf); first|refine IndepAnd (by kernel_rfl) ?_|refine TreeAnd (by kernel_rfl) ?_|refine ⟨rfl,?_⟩|refine And.intro (by first|decide|exact trivial|exact ⟨rfl,trivial⟩|exact Nat.le_of_ble_eq_true rfl|exact ⟨_,rfl,rfl⟩|exact ⟨rfl,rfl,trivial⟩|exact ⟨rfl,rfl,rfl,trivial⟩|exact ⟨rfl,rfl,rfl,rfl,trivial⟩|exact ⟨rfl,rfl,rfl,rfl,rfl,trivial⟩) ?_
    conv => whnf
    refine ⟨_, CallVC.pr (Text_ok A[i] ht.hf fun _ => text_big ht.hf ht.hw) rfl rfl, ?_⟩
    repeat (conv => whnf); first|refine IndepAnd (by kernel_rfl) ?_|refine TreeAnd (by kernel_rfl) ?_|refine ⟨rfl,?_⟩|refine And.intro (by first|decide|exact trivial|exact ⟨rfl,trivial⟩|exact Nat.le_of_ble_eq_true rfl|exact ⟨_,rfl,rfl⟩|exact ⟨rfl,rfl,trivial⟩|exact ⟨rfl,rfl,rfl,trivial⟩|exact ⟨rfl,rfl,rfl,rfl,trivial⟩|exact ⟨rfl,rfl,rfl,rfl,rfl,trivial⟩) ?_
    conv => whnf
    refine ⟨_, wrapN (n := i + 1) rfl (by omega), ?_⟩
    repeat (conv => whnf); first|refine IndepAnd (by kernel_rfl) ?_|refine TreeAnd (by kernel_rfl) ?_|refine ⟨rfl,?_⟩|refine And.intro (by first|decide|exact trivial|exact ⟨rfl,trivial⟩|exact Nat.le_of_ble_eq_true rfl|exact ⟨_,rfl,rfl⟩|exact ⟨rfl,rfl,trivial⟩|exact ⟨rfl,rfl,rfl,trivial⟩|exact ⟨rfl,rfl,rfl,rfl,trivial⟩|exact ⟨rfl,rfl,rfl,rfl,rfl,trivial⟩) ?_
    conv => whnf
    refine ⟨⟨i + 1, hlt⟩, ?_, by show A.length - (i + 1) < A.length - i; omega⟩
    refine Ge.of rfl ?_ ?_
    · repeat (conv => whnf); refine ⟨LE.of rfl, ?_⟩
      trivial
    · repeat (conv => whnf); first | refine ⟨OLE.of rfl, ?_⟩ | refine ⟨OLE.of (congrArg (AO.mp 37 true) (show mput (.s (txtT A[i])) (.bool true) (isM ((A.take i).map txtT)) = isM ((A.take (i + 1)).map txtT) by rw [isM_put (txt_new hnd hlt), take_txt hlt])), ?_⟩
      trivial
  have hge : i = A.length := by have h1 := of_decide_eq_false h1; rw [tmvs_length] at h1; have h1 : ¬ (i : Int) < (A.length : Int) := h1; omega
  have eth : (A.take i).map txtT = V.th := by rw [hge, List.take_length, eV]
  rw [eth]
  have v1 : V.l0 = kA.l := by rw [eV]
  have v2 : V.s0 = kA.s := by rw [eV]
  have v3 : V.l1 = kB.l := by rw [eV]
  have v4 : V.s1 = kB.s := by rw [eV]
  rw [← v1, ← v2, ← v3, ← v4]
  rw [← v2] at d1
  rw [← v4] at dB
  have hT := tests_ok V ⟨D', kB.d⟩
  repeat (conv => whnf); first|refine IndepAnd (by kernel_rfl) ?_|refine TreeAnd (by kernel_rfl) ?_|refine ⟨rfl,?_⟩|refine And.intro (by first|decide|exact trivial|exact ⟨rfl,trivial⟩|exact Nat.le_of_ble_eq_true rfl|exact ⟨_,rfl,rfl⟩|exact ⟨rfl,rfl,trivial⟩|exact ⟨rfl,rfl,rfl,trivial⟩|exact ⟨rfl,rfl,rfl,rfl,trivial⟩|exact ⟨rfl,rfl,rfl,rfl,rfl,trivial⟩) ?_
  conv => whnf
  refine ⟨_, MCallVC.pr gTst hT ⟨LE.of rfl, trivial⟩ ⟨.inr (.inl rfl), .inr (.inl rfl), .inr (.inl rfl), .inr (.inl rfl), .inr (.inl rfl), .inr (.inl rfl), .inr (.inl rfl), .inr (.inl rfl), .inr (.inl rfl), trivial⟩ rfl, ?_⟩
  repeat (conv => whnf); first|refine IndepAnd (by kernel_rfl) ?_|refine TreeAnd (by kernel_rfl) ?_|refine ⟨rfl,?_⟩|refine And.intro (by first|decide|exact trivial|exact ⟨rfl,trivial⟩|exact Nat.le_of_ble_eq_true rfl|exact ⟨_,rfl,rfl⟩|exact ⟨rfl,rfl,trivial⟩|exact ⟨rfl,rfl,rfl,trivial⟩|exact ⟨rfl,rfl,rfl,rfl,trivial⟩|exact ⟨rfl,rfl,rfl,rfl,rfl,trivial⟩) ?_
  conv => whnf
  refine ⟨{ x : Nat × Dd // x.1 ≤ B.length ∧ x.2.Ok V ∧ ∀ u ∈ B.take x.1, tstB V u = false }, fun x => Vc.S.of [(4, .ptr 4 0), (5, .p (.bool false)), (11, .slc 1851), (53, lv B), (54, iv ((tmvs B).length : Int)), (55, iv (x.1.1 : Int))] [(4, .var true 24 (.p (.agg [.int .i64 0, .str [], .nilS]))), (1850, .var true 47 (.mix [.ptr 1900 0, .ptr 1910 0, .slc 33])), (1851, .fm 49 tstK (tstX 1850)), (1900, .var true 39 (.mix [.slc 1901, .slc 1902, .slc 1903])), (1901, .row 24 3 (tmvs V.l0)), (1902, .mp 37 true (isM V.s0)), (1903, .mp 37 true (mdM x.1.2.d0)), (1910, .var true 39 (.mix [.slc 1911, .slc 1912, .slc 1913])), (1911, .row 24 3 (tmvs V.l1)), (1912, .mp 37 true (isM V.s1)), (1913, .mp 37 true (mdM x.1.2.d1)), (33, .mp 37 true (isM V.th))], fun x => B.length - x.1.1, ⟨(0, ⟨D', kB.d⟩), Nat.zero_le _, ⟨d1, dB⟩, by simp⟩, ?_, ?_⟩
  · refine Ge.of rfl ?_ ?_
    · repeat (conv => whnf); refine ⟨LE.of rfl, ?_⟩
      trivial
    · repeat (conv => whnf); refine ⟨OLE.of rfl, ?_⟩
      trivial
  rintro ⟨⟨j, d⟩, hj, hd, hq⟩
  have hj : j ≤ B.length := hj
  have hd : d.Ok V := hd
  have hq : ∀ u ∈ B.take j, tstB V u = false := hq
  have hstep : ∀ {h : j < B.length}, tstB V B[j] = false → ∀ u ∈ B.take (j + 1), tstB V u = false := by
    intro hlt hf u hu
    rw [List.take_succ_eq_append_getElem hlt, List.mem_append] at hu
    rcases hu with hu | hu
    · exact hq u hu
    · rw [List.mem_singleton.1 hu]; exact hf
  repeat (conv => whnf); first|refine IndepAnd (by kernel_rfl) ?_|refine TreeAnd (by kernel_rfl) ?_|refine ⟨rfl,?_⟩|refine And.intro (by first|decide|exact trivial|exact ⟨rfl,trivial⟩|exact Nat.le_of_ble_eq_true rfl|exact ⟨_,rfl,rfl⟩|exact ⟨rfl,rfl,trivial⟩|exact ⟨rfl,rfl,rfl,trivial⟩|exact ⟨rfl,rfl,rfl,rfl,trivial⟩|exact ⟨rfl,rfl,rfl,rfl,rfl,trivial⟩) ?_
  conv => whnf
  refine @bool_rec _ _ _ ?_ ?_ <;> intro h2
  · have hlt : j < B.length := by have := of_decide_eq_true h2; rw [tmvs_length] at this; exact Int.ofNat_lt.1 this
    have ht := tB _ (List.getElem_mem hlt)
    have hg := gB _ (List.getElem_mem hlt)
    cases hk : hasTst B[j] with
    | false =>
      obtain ⟨n1, n2⟩ := notst V B[j] hk
      repeat (conv => whnf); first|refine IndepAnd (by kernel_rfl) ?_|refine TreeAnd (by kernel_rfl) ?_|refine ⟨rfl,?_⟩|refine And.intro (by first|decide|exact trivial|exact ⟨rfl,trivial⟩|exact Nat.le_of_ble_eq_true rfl|exact ⟨_,rfl,rfl⟩|exact ⟨rfl,rfl,trivial⟩|exact ⟨rfl,rfl,rfl,trivial⟩|exact ⟨rfl,rfl,rfl,rfl,trivial⟩|exact ⟨rfl,rfl,rfl,rfl,rfl,trivial⟩) ?_
      conv => whnf
      refine ⟨Int.natCast_nonneg _, TV B[j], tmvs_getN hlt, rfl, rfl, ?_⟩
      repeat (conv => whnf); first|refine IndepAnd (by kernel_rfl) ?_|refine TreeAnd (by kernel_rfl) ?_|refine ⟨rfl,?_⟩|refine And.intro (by first|decide|exact trivial|exact ⟨rfl,trivial⟩|exact Nat.le_of_ble_eq_true rfl|exact ⟨_,rfl,rfl⟩|exact ⟨rfl,rfl,trivial⟩|exact ⟨rfl,rfl,rfl,trivial⟩|exact ⟨rfl,rfl,rfl,rfl,trivial⟩|exact ⟨rfl,rfl,rfl,rfl,rfl,trivial⟩) ?_
      conv => whnf
      refine ⟨_, n2 1850, ?_⟩
      repeat (conv => whnf); first|refine IndepAnd (by kernel_rfl) ?_|refine TreeAnd (by kernel_rfl) ?_|refine ⟨rfl,?_⟩|refine And.intro (by first|decide|exact trivial|exact ⟨rfl,trivial⟩|exact Nat.le_of_ble_eq_true rfl|exact ⟨_,rfl,rfl⟩|exact ⟨rfl,rfl,trivial⟩|exact ⟨rfl,rfl,rfl,trivial⟩|exact ⟨rfl,rfl,rfl,rfl,trivial⟩|exact ⟨rfl,rfl,rfl,rfl,rfl,trivial⟩) ?_
      conv => whnf
      refine ⟨_, wrapN (n := j + 1) rfl (by omega), ?_⟩
      repeat (conv => whnf); first|refine IndepAnd (by kernel_rfl) ?_|refine TreeAnd (by kernel_rfl) ?_|refine ⟨rfl,?_⟩|refine And.intro (by first|decide|exact trivial|exact ⟨rfl,trivial⟩|exact Nat.le_of_ble_eq_true rfl|exact ⟨_,rfl,rfl⟩|exact ⟨rfl,rfl,trivial⟩|exact ⟨rfl,rfl,rfl,trivial⟩|exact ⟨rfl,rfl,rfl,rfl,trivial⟩|exact ⟨rfl,rfl,rfl,rfl,rfl,trivial⟩) ?_
      conv => whnf
      refine ⟨⟨(j + 1, d), hlt, hd, hstep n1⟩, ?_, by show B.length - (j + 1) < B.length - j; omega⟩
      refine Ge.of rfl ?_ ?_
      · repeat (conv => whnf); refine ⟨LE.of rfl, ?_⟩
        trivial
      · repeat (conv => whnf); refine ⟨OLE.of rfl, ?_⟩
        trivial
    | true =>
      obtain ⟨f, f1, f2⟩ := tst_ok V B[j] ht hg hk
      obtain ⟨d', g1, g2⟩ := f2 d hd
      repeat (conv => whnf); first|refine IndepAnd (by kernel_rfl) ?_|refine TreeAnd (by kernel_rfl) ?_|refine ⟨rfl,?_⟩|refine And.intro (by first|decide|exact trivial|exact ⟨rfl,trivial⟩|exact Nat.le_of_ble_eq_true rfl|exact ⟨_,rfl,rfl⟩|exact ⟨rfl,rfl,trivial⟩|exact ⟨rfl,rfl,rfl,trivial⟩|exact ⟨rfl,rfl,rfl,rfl,trivial⟩|exact ⟨rfl,rfl,rfl,rfl,rfl,trivial⟩) ?_
      conv => whnf
      refine ⟨Int.natCast_nonneg _, TV B[j], tmvs_getN hlt, rfl, rfl, ?_⟩
      repeat (conv => whnf); first|refine IndepAnd (by kernel_rfl) ?_|refine TreeAnd (by kernel_rfl) ?_|refine ⟨rfl,?_⟩|refine And.intro (by first|decide|exact trivial|exact ⟨rfl,trivial⟩|exact Nat.le_of_ble_eq_true rfl|exact ⟨_,rfl,rfl⟩|exact ⟨rfl,rfl,trivial⟩|exact ⟨rfl,rfl,rfl,trivial⟩|exact ⟨rfl,rfl,rfl,rfl,trivial⟩|exact ⟨rfl,rfl,rfl,rfl,rfl,trivial⟩) ?_
      conv => whnf
      refine ⟨_, f1 1850, ?_⟩
      repeat (conv => whnf); first|refine IndepAnd (by kernel_rfl) ?_|refine TreeAnd (by kernel_rfl) ?_|refine ⟨rfl,?_⟩|refine And.intro (by first|decide|exact trivial|exact ⟨rfl,trivial⟩|exact Nat.le_of_ble_eq_true rfl|exact ⟨_,rfl,rfl⟩|exact ⟨rfl,rfl,trivial⟩|exact ⟨rfl,rfl,rfl,trivial⟩|exact ⟨rfl,rfl,rfl,rfl,trivial⟩|exact ⟨rfl,rfl,rfl,rfl,rfl,trivial⟩) ?_
      conv => whnf
      refine ⟨_, MCallVC.pr gTst g2 ⟨LE.of rfl, LE.of rfl, trivial⟩ ⟨.inr (.inr (.inr ⟨_, _, _, rfl, rfl, LE.refl _⟩)), .inr (.inl rfl), .inr (.inl rfl), .inr (.inl rfl), .inr (.inl rfl), .inr (.inl rfl), .inr (.inl rfl), .inr (.inl rfl), .inr (.inl rfl), .inr (.inl rfl), trivial⟩ rfl, ?_⟩
      repeat (conv => whnf); first|refine IndepAnd (by kernel_rfl) ?_|refine TreeAnd (by kernel_rfl) ?_|refine ⟨rfl,?_⟩|refine And.intro (by first|decide|exact trivial|exact ⟨rfl,trivial⟩|exact Nat.le_of_ble_eq_true rfl|exact ⟨_,rfl,rfl⟩|exact ⟨rfl,rfl,trivial⟩|exact ⟨rfl,rfl,rfl,trivial⟩|exact ⟨rfl,rfl,rfl,rfl,trivial⟩|exact ⟨rfl,rfl,rfl,rfl,rfl,trivial⟩) ?_
      conv => whnf
      refine @bool_rec _ _ _ ?_ ?_ <;> intro h3
      · have hfind := find_at hlt hq h3
        repeat (conv => whnf); first|refine IndepAnd (by kernel_rfl) ?_|refine TreeAnd (by kernel_rfl) ?_|refine ⟨rfl,?_⟩|refine And.intro (by first|decide|exact trivial|exact ⟨rfl,trivial⟩|exact Nat.le_of_ble_eq_true rfl|exact ⟨_,rfl,rfl⟩|exact ⟨rfl,rfl,trivial⟩|exact ⟨rfl,rfl,rfl,trivial⟩|exact ⟨rfl,rfl,rfl,rfl,trivial⟩|exact ⟨rfl,rfl,rfl,rfl,rfl,trivial⟩) ?_
        conv => whnf
        rw [hfind]
        exact ⟨LEP.refl _, LEP.refl _, trivial⟩
      · have h3 : tstB V B[j] = false := h3
        repeat (conv => whnf); first|refine IndepAnd (by kernel_rfl) ?_|refine TreeAnd (by kernel_rfl) ?_|refine ⟨rfl,?_⟩|refine And.intro (by first|decide|exact trivial|exact ⟨rfl,trivial⟩|exact Nat.le_of_ble_eq_true rfl|exact ⟨_,rfl,rfl⟩|exact ⟨rfl,rfl,trivial⟩|exact ⟨rfl,rfl,rfl,trivial⟩|exact ⟨rfl,rfl,rfl,rfl,trivial⟩|exact ⟨rfl,rfl,rfl,rfl,rfl,trivial⟩) ?_
        conv => whnf
        refine ⟨_, wrapN (n := j + 1) rfl (by omega), ?_⟩
        repeat (conv => whnf); first|refine IndepAnd (by kernel_rfl) ?_|refine TreeAnd (by kernel_rfl) ?_|refine ⟨rfl,?_⟩|refine And.intro (by first|decide|exact trivial|exact ⟨rfl,trivial⟩|exact Nat.le_of_ble_eq_true rfl|exact ⟨_,rfl,rfl⟩|exact ⟨rfl,rfl,trivial⟩|exact ⟨rfl,rfl,rfl,trivial⟩|exact ⟨rfl,rfl,rfl,rfl,trivial⟩|exact ⟨rfl,rfl,rfl,rfl,rfl,trivial⟩) ?_
        conv => whnf
        refine ⟨⟨(j + 1, d'), hlt, g1, hstep h3⟩, ?_, by show B.length - (j + 1) < B.length - j; omega⟩
        refine Ge.of rfl ?_ ?_
        · repeat (conv => whnf); refine ⟨LE.of rfl, ?_⟩
          trivial
        · repeat (conv => whnf); refine ⟨OLE.of rfl, ?_⟩
          trivial
  · have hge : j = B.length := by have h2 := of_decide_eq_false h2; rw [tmvs_length] at h2; have h2 : ¬ (j : Int) < (B.length : Int) := h2; omega
    have hnone : B.find? (tstB V) = none := by
      rw [List.find?_eq_none]
      intro u hu
      rw [hq u (by rw [hge, List.take_length]; exact hu)]
      decide
    repeat (conv => whnf); first|refine IndepAnd (by kernel_rfl) ?_|refine TreeAnd (by kernel_rfl) ?_|refine ⟨rfl,?_⟩|refine And.intro (by first|decide|exact trivial|exact ⟨rfl,trivial⟩|exact Nat.le_of_ble_eq_true rfl|exact ⟨_,rfl,rfl⟩|exact ⟨rfl,rfl,trivial⟩|exact ⟨rfl,rfl,rfl,trivial⟩|exact ⟨rfl,rfl,rfl,rfl,trivial⟩|exact ⟨rfl,rfl,rfl,rfl,rfl,trivial⟩) ?_
    conv => whnf
    rw [hnone]
    exact ⟨LE_leaf 0 [], LEP.refl _, trivial⟩
/-- offline.Testable. -/
theorem testable_ok {l : List Tm} {s : Tm} (h : FrmS l s) : K true 18 [lv l, tv s] (tsR (testT l s)) := by
  cases hr : rightT (canT s) with
  | false => exact testN_ok h hr
  | true =>
    cases hm : mkC (ofT (anT l)).s (canT s) with
    | true => exact testK_ok h hr hm
    | false => exact testY_ok h hr hm
end Go.Sl
