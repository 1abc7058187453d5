/- Contracts of layer 8: what is known. -/
import Derived.Test.YtpeabfflebgamaaDoorGj
set_option linter.unusedVariables false
set_option linter.unusedSimpArgs false
/- mid -/
namespace Go.Sl
open Go Go.Vc Go.Proofs Go.RowKit

/-- The texts that are there; what was found out of others. -/
def isM (S : List Bs) : List (MK × PV) := S.map fun s => (.s s, .bool true)
def mdM (D : List (Bs × Bool)) : List (MK × PV) := D.map fun x => (.s x.1, .bool x.2)
theorem isM_get (s : Bs) (S : List Bs) : mget (.s s) (isM S) = if s ∈ S then some (.bool true) else none := by
  induction S with
  | nil => rfl
  | cons x S ih =>
    show (if MK.s s = MK.s x then some (PV.bool true) else mget (.s s) (isM S)) = _
    by_cases e : s = x
    · subst e; simp
    · rw [if_neg (fun h => e (by injection h)), ih]
      simp [e]
theorem isM_put {s : Bs} {S : List Bs} (h : s ∉ S) : mput (.s s) (.bool true) (isM S) = isM (S ++ [s]) := by
  induction S with
  | nil => rfl
  | cons x S ih =>
    simp only [List.mem_cons, not_or] at h
    show (if MK.s s = MK.s x then (MK.s s, PV.bool true) :: isM S else (MK.s x, PV.bool true) :: mput (.s s) (.bool true) (isM S)) = _
    rw [if_neg (fun e => h.1 (by injection e)), ih h.2]
    rfl
theorem mdM_get (s : Bs) (D : List (Bs × Bool)) : mget (.s s) (mdM D) = (D.lookup s).map .bool := by
  induction D with
  | nil => rfl
  | cons x D ih =>
    obtain ⟨k, b⟩ := x
    show (if MK.s s = MK.s k then some (PV.bool b) else mget (.s s) (mdM D)) = _
    by_cases e : s = k
    · subst e; simp [List.lookup]
    · have hb : (s == k) = false := beq_eq_false_iff_ne.2 e
      rw [if_neg (fun h => e (by injection h)), ih]
      simp [List.lookup, hb]
theorem mdM_put {s : Bs} {b : Bool} {D : List (Bs × Bool)} (h : D.lookup s = none) : mput (.s s) (.bool b) (mdM D) = mdM (D ++ [(s, b)]) := by
  induction D with
  | nil => rfl
  | cons x D ih =>
    obtain ⟨k, c⟩ := x
    have e : ¬ s = k := by
      rintro rfl
      simp [List.lookup] at h
    have hb : (s == k) = false := beq_eq_false_iff_ne.2 e
    have h' : D.lookup s = none := by simp only [List.lookup, hb] at h; exact h
    show (if MK.s s = MK.s k then (MK.s s, PV.bool b) :: mdM D else (MK.s k, PV.bool c) :: mput (.s s) (.bool b) (mdM D)) = _
    rw [if_neg (fun h => e (by injection h)), ih h']
    rfl
/-- The objects of what is known. -/
abbrev KS (L : List Tm) (S : List Bs) (D : List (Bs × Bool)) : List (Nat × AO) :=
  [(2000, .var true 39 (.mix [.slc 1001, .slc 2002, .slc 2003])), (1001, .row 24 3 (tmvs L)), (2002, .mp 37 true (isM S)), (2003, .mp 37 true (mdM D))]
/-- The same, the row keeping its place. -/
abbrev KP (L : List Tm) (S : List Bs) (D : List (Bs × Bool)) : List (Nat × AO) :=
  [(2000, .var true 39 (.mix [.slc 2001, .slc 2002, .slc 2003])), (2001, .row 24 3 (tmvs L)), (2002, .mp 37 true (isM S)), (2003, .mp 37 true (mdM D))]
structure Kn where
  l : List Tm
  s : List Bs
  d : List (Bs × Bool)
abbrev Kn.obs (k : Kn) : List (Nat × AO) := KS k.l k.s k.d
def addT (k : Kn) (t : Tm) : Kn := if txtT (canT t) = [] ∨ txtT (canT t) ∈ k.s then k else ⟨k.l ++ [canT t], k.s ++ [txtT (canT t)], []⟩
theorem add_ok (k : Kn) (t : Tm) (hf : Fit t) (hw : wt t ≤ 1000000000) (hl : k.l.length ≤ 1000000000) :
    PM (cx true) 52 k.obs [.ptr 2000 0, tv t] (addT k t).obs (.tupS []) := by
  have hc := canon_ok t hf hw
  have fc := can_fit t hf
  have wc : wt (canT t) ≤ 1000000000 := by rw [can_wt]; exact hw
  have hT := Text_ok (canT t) fc fun _ => text_big fc wc
  obtain ⟨u, hu⟩ : ∃ u, u = canT t := ⟨_, rfl⟩
  rw [← hu] at hc fc wc hT
  obtain ⟨L, S, D⟩ := k
  refine PM_of_vc (cx_ok true) (mixed true) { own := fun q => Nat.beq q 31, kp := kpT [(5, [0, 3, 4], [3, 2000, 1001, 2002, 2003])], tr := trT [(5, [0, 1, 3, 7, 0, 15, 0, 127, 255, 511, 255, 1279, 3327], .one 0 (.one 1 (.one 2 (.one 3 (.one 4 (.one 5 (.one 6 (.one 7 (.alt (.one 8 (.alt (.one 9 (.one 10 (.one 11 (.one 12 (.fin))))) (.one 10 (.alt (.one 9 (.one 11 (.one 12 (.fin)))) (.one 11 (.alt (.one 9 (.one 12 (.fin))) (.one 12 (.one 9 (.fin))))))))) (.one 10 (.alt (.one 8 (.alt (.one 9 (.one 11 (.one 12 (.fin)))) (.one 11 (.alt (.one 9 (.one 12 (.fin))) (.one 12 (.one 9 (.fin))))))) (.one 11 (.alt (.one 8 (.alt (.one 9 (.one 12 (.fin))) (.one 12 (.one 9 (.fin))))) (.one 12 (.one 8 (.one 9 (.fin)))))))))))))))))] } Tryd.func52 (by kernel_rfl) rfl rfl (by kernel_rfl) ?_ ?_
  · unfold addT
    split <;> rfl
  have hk : addT ⟨L, S, D⟩ t = if txtT u = [] ∨ txtT u ∈ S then ⟨L, S, D⟩ else ⟨L ++ [u], S ++ [txtT u], []⟩ := by rw [hu]; rfl
  rw [hk]
  repeat (conv => whnf); first|refine IndepAnd (by kernel_rfl) ?_|refine TreeAnd (by kernel_rfl) ?_|refine ⟨rfl,?_⟩|refine And.intro (by first|decide|exact trivial|exact Nat.le_of_ble_eq_true rfl|exact ⟨_,rfl,rfl⟩|exact ⟨rfl,trivial⟩|exact ⟨rfl,rfl,trivial⟩) ?_
  conv => whnf
  refine ⟨_, CallVC.pr hc rfl rfl, ?_⟩
  repeat (conv => whnf); first|refine IndepAnd (by kernel_rfl) ?_|refine TreeAnd (by kernel_rfl) ?_|refine ⟨rfl,?_⟩|refine And.intro (by first|decide|exact trivial|exact Nat.le_of_ble_eq_true rfl|exact ⟨_,rfl,rfl⟩|exact ⟨rfl,trivial⟩|exact ⟨rfl,rfl,trivial⟩) ?_
  conv => whnf
  refine ⟨_, CallVC.pr hT rfl rfl, ?_⟩
  repeat (conv => whnf); first|refine IndepAnd (by kernel_rfl) ?_|refine TreeAnd (by kernel_rfl) ?_|refine ⟨rfl,?_⟩|refine And.intro (by first|decide|exact trivial|exact Nat.le_of_ble_eq_true rfl|exact ⟨_,rfl,rfl⟩|exact ⟨rfl,trivial⟩|exact ⟨rfl,rfl,trivial⟩) ?_
  conv => whnf
  refine @bool_rec _ _ _ ?_ ?_ <;> intro h1
  · have h1 : txtT u = [] := of_decide_eq_true h1
    rw [if_pos (.inl h1)]
    repeat (conv => whnf); first|refine IndepAnd (by kernel_rfl) ?_|refine TreeAnd (by kernel_rfl) ?_|refine ⟨rfl,?_⟩|refine And.intro (by first|decide|exact trivial|exact Nat.le_of_ble_eq_true rfl|exact ⟨_,rfl,rfl⟩|exact ⟨rfl,trivial⟩|exact ⟨rfl,rfl,trivial⟩) ?_
    conv => whnf
    exact ⟨id, rfl, ⟨.inr (.inl rfl), .inr (.inl rfl), .inr (.inl rfl), .inr (.inl rfl), trivial⟩, rfl, rfl⟩
  · have h1 : ¬ txtT u = [] := of_decide_eq_false h1
    repeat (conv => whnf); first|refine IndepAnd (by kernel_rfl) ?_|refine TreeAnd (by kernel_rfl) ?_|refine ⟨rfl,?_⟩|refine And.intro (by first|decide|exact trivial|exact Nat.le_of_ble_eq_true rfl|exact ⟨_,rfl,rfl⟩|exact ⟨rfl,trivial⟩|exact ⟨rfl,rfl,trivial⟩) ?_
    conv => whnf
    refine ⟨_, isM_get (txtT u) S, ?_⟩
    by_cases h2 : txtT u ∈ S
    · rw [if_pos h2, if_pos (.inr h2)]
      repeat (conv => whnf); first|refine IndepAnd (by kernel_rfl) ?_|refine TreeAnd (by kernel_rfl) ?_|refine ⟨rfl,?_⟩|refine And.intro (by first|decide|exact trivial|exact Nat.le_of_ble_eq_true rfl|exact ⟨_,rfl,rfl⟩|exact ⟨rfl,trivial⟩|exact ⟨rfl,rfl,trivial⟩) ?_
      conv => whnf
      exact ⟨id, rfl, ⟨.inr (.inl rfl), .inr (.inl rfl), .inr (.inl rfl), .inr (.inl rfl), trivial⟩, rfl, rfl⟩
    · rw [if_neg h2, if_neg (fun h => h.elim h1 h2)]
      have hlt : (tmvs L).length < (tmvs L ++ [PV.agg [.int .i64 0, .str [], .nilS]]).length := by simp
      have hset : (tmvs L ++ [PV.agg [.int .i64 0, .str [], .nilS]]).set (tmvs L).length (TV u) = tmvs (L ++ [u]) := by
        rw [List.set_append_right _ _ (Nat.le_refl _), Nat.sub_self, List.set_cons_zero, tmvs1, ← tmvs_append]
      repeat (conv => whnf); first|refine IndepAnd (by kernel_rfl) ?_|refine TreeAnd (by kernel_rfl) ?_|refine ⟨rfl,?_⟩|refine And.intro (by first|decide|exact trivial|exact Nat.le_of_ble_eq_true rfl|exact ⟨_,rfl,rfl⟩|exact ⟨rfl,trivial⟩|exact ⟨rfl,rfl,trivial⟩) ?_
      conv => whnf
      refine ⟨by show ((tmvs L).length + 1) * 48 ≤ _; rw [tmvs_length]; have hl : L.length ≤ 1000000000 := hl; omega, ?_⟩
      repeat' ((conv => whnf); first | refine IndepAnd (by kernel_rfl) ?_ | refine TreeAnd (by kernel_rfl) ?_ | refine ⟨rfl, ?_⟩ | refine ⟨by decide, ?_⟩ | refine ⟨trivial, ?_⟩ | refine ⟨⟨rfl, trivial⟩, ?_⟩ | refine ⟨Nat.le_of_ble_eq_true rfl, ?_⟩ | refine ⟨⟨_, rfl, rfl⟩, ?_⟩ | refine ⟨⟨rfl, rfl, trivial⟩, ?_⟩ | refine ⟨⟨rfl, rfl, rfl, trivial⟩, ?_⟩ | refine ⟨⟨rfl, rfl, rfl, rfl, trivial⟩, ?_⟩ | refine ⟨⟨rfl, rfl, rfl, rfl, rfl, trivial⟩, ?_⟩ | refine AltAnd ?_ ?_ | refine ⟨Int.natCast_nonneg _, hlt, ?_⟩ | refine ⟨hlt, rfl, rfl, rfl, ?_⟩ | fail)
      all_goals (conv => whnf)
      all_goals exact ⟨id, rfl, ⟨.inr (.inl rfl), .inr (.inl (congrArg (AO.row 24 3) hset)), .inr (.inl (congrArg (AO.mp 37 true) (isM_put h2))), .inr (.inl rfl), trivial⟩, rfl, rfl⟩
end Go.Sl
/- mid -/
namespace Go.Sl
open Go Go.Vc Go.Proofs Go.RowKit

/-- How many are asked. -/
def stopT (q : Tm → Bool) (l : List Tm) : Nat := min l.length ((l.takeWhile q).length + 1)
theorem takeWhile_at {q : Tm → Bool} : ∀ {l : List Tm} {i : Nat} (hi : i < l.length), (∀ u ∈ l.take i, q u = true) → q l[i] = false → (l.takeWhile q).length = i
  | [], i, hi, _, _ => by simp at hi
  | t :: l, 0, hi, _, h => by
    simp at h
    simp [List.takeWhile, h]
  | t :: l, i + 1, hi, h1, h2 => by
    have ht := h1 t (by simp)
    simp only [List.takeWhile, ht]
    rw [List.length_cons, takeWhile_at (i := i) (by simpa using hi) (fun u hu => h1 u (by simp [hu])) (by simpa using h2)]
theorem takeWhile_all {q : Tm → Bool} {l : List Tm} (h : ∀ u ∈ l, q u = true) : (l.takeWhile q).length = l.length := by
  induction l with
  | nil => rfl
  | cons t l ih => simp only [List.takeWhile, h t (List.mem_cons_self ..), List.length_cons]; rw [ih fun u hu => h u (List.mem_cons_of_mem _ hu)]
def gid : Nat → Nat := fun k => k
theorem all_ok (L : List Tm) (S : List Bs) (q : Tm → Bool) (l : List Tm) (Ds : Nat → List (Bs × Bool)) (hl : l.length ≤ 9223372036854775807)
    (h : ∀ i (hi : i < l.length), PM (cx true) 53 (KP L S (Ds i)) [.ptr 2000 0, tv l[i]] (KP L S (Ds (i + 1))) (.p (.bool (q l[i])))) :
    PM (cx true) 51 (KP L S (Ds 0)) [.ptr 2000 0, lv l] (KP L S (Ds (stopT q l))) (.p (.bool (l.all q))) := by
  refine PM_of_vc (cx_ok true) (mixed true) { own := fun q => Nat.beq q 100015 } Tryd.func51 (by kernel_rfl) rfl rfl (by kernel_rfl) rfl ?_
  repeat (conv => whnf); first|refine IndepAnd (by kernel_rfl) ?_|refine TreeAnd (by kernel_rfl) ?_|refine ⟨rfl,?_⟩|refine And.intro (by first|decide|exact trivial|exact Nat.le_of_ble_eq_true rfl|exact ⟨_,rfl,rfl⟩|exact ⟨rfl,trivial⟩|exact ⟨rfl,rfl,trivial⟩) ?_
  conv => whnf
  refine ⟨{ i : Nat // i ≤ l.length ∧ ∀ u ∈ l.take i, q u = true }, fun i => Vc.S.of [(0, .ptr 2000 0), (4, .p (.bool false)), (7, lv l), (8, iv ((tmvs l).length : Int)), (9, iv (i.1 : Int))] (KP L S (Ds i.1)), fun i => l.length - i.1, ⟨0, Nat.zero_le _, by simp⟩, ?_, ?_⟩
  · refine Ge.of rfl ?_ ?_
    · repeat (conv => whnf); refine ⟨LE.of rfl, ?_⟩
      trivial
    · repeat (conv => whnf); refine ⟨OLE.of rfl, ?_⟩
      trivial
  rintro ⟨i, hi, hq⟩
  repeat (conv => whnf); first|refine IndepAnd (by kernel_rfl) ?_|refine TreeAnd (by kernel_rfl) ?_|refine ⟨rfl,?_⟩|refine And.intro (by first|decide|exact trivial|exact Nat.le_of_ble_eq_true rfl|exact ⟨_,rfl,rfl⟩|exact ⟨rfl,trivial⟩|exact ⟨rfl,rfl,trivial⟩) ?_
  conv => whnf
  refine @bool_rec _ _ _ ?_ ?_ <;> intro h1
  · have hlt : i < l.length := by have := of_decide_eq_true h1; rw [tmvs_length] at this; exact Int.ofNat_lt.1 this
    repeat (conv => whnf); first|refine IndepAnd (by kernel_rfl) ?_|refine TreeAnd (by kernel_rfl) ?_|refine ⟨rfl,?_⟩|refine And.intro (by first|decide|exact trivial|exact Nat.le_of_ble_eq_true rfl|exact ⟨_,rfl,rfl⟩|exact ⟨rfl,trivial⟩|exact ⟨rfl,rfl,trivial⟩) ?_
    conv => whnf
    refine ⟨Int.natCast_nonneg _, TV l[i], tmvs_getN hlt, rfl, rfl, ?_⟩
    repeat (conv => whnf); first|refine IndepAnd (by kernel_rfl) ?_|refine TreeAnd (by kernel_rfl) ?_|refine ⟨rfl,?_⟩|refine And.intro (by first|decide|exact trivial|exact Nat.le_of_ble_eq_true rfl|exact ⟨_,rfl,rfl⟩|exact ⟨rfl,trivial⟩|exact ⟨rfl,rfl,trivial⟩) ?_
    conv => whnf
    refine ⟨_, MCallVC.pr gid (h i hlt) ⟨LE.of rfl, LE.of rfl, trivial⟩ ⟨.inr (.inl rfl), .inr (.inl rfl), .inr (.inl rfl), .inr (.inl rfl), trivial⟩ rfl, ?_⟩
    repeat (conv => whnf); first|refine IndepAnd (by kernel_rfl) ?_|refine TreeAnd (by kernel_rfl) ?_|refine ⟨rfl,?_⟩|refine And.intro (by first|decide|exact trivial|exact Nat.le_of_ble_eq_true rfl|exact ⟨_,rfl,rfl⟩|exact ⟨rfl,trivial⟩|exact ⟨rfl,rfl,trivial⟩) ?_
    conv => whnf
    refine @bool_rec _ _ _ ?_ ?_ <;> intro h2
    · have h2 : q l[i] = false := by have h2 : (!q l[i]) = true := h2; revert h2; cases q l[i] <;> simp
      have hstop : stopT q l = i + 1 := by rw [stopT, takeWhile_at hlt hq h2]; omega
      have hall : l.all q = false := by
        rw [← Bool.not_eq_true, List.all_eq_true]
        intro hc
        rw [hc _ (List.getElem_mem hlt)] at h2
        cases h2
      rw [hstop, hall]
      repeat (conv => whnf); first|refine IndepAnd (by kernel_rfl) ?_|refine TreeAnd (by kernel_rfl) ?_|refine ⟨rfl,?_⟩|refine And.intro (by first|decide|exact trivial|exact Nat.le_of_ble_eq_true rfl|exact ⟨_,rfl,rfl⟩|exact ⟨rfl,trivial⟩|exact ⟨rfl,rfl,trivial⟩) ?_
      conv => whnf
      exact ⟨gid, ⟨rfl, LE.of rfl⟩, ⟨.inr (.inl rfl), .inr (.inl rfl), .inr (.inl rfl), .inr (.inl rfl), trivial⟩, rfl, rfl⟩
    · have h2 : q l[i] = true := by have h2 : (!q l[i]) = false := h2; revert h2; cases q l[i] <;> simp
      repeat (conv => whnf); first|refine IndepAnd (by kernel_rfl) ?_|refine TreeAnd (by kernel_rfl) ?_|refine ⟨rfl,?_⟩|refine And.intro (by first|decide|exact trivial|exact Nat.le_of_ble_eq_true rfl|exact ⟨_,rfl,rfl⟩|exact ⟨rfl,trivial⟩|exact ⟨rfl,rfl,trivial⟩) ?_
      conv => whnf
      refine ⟨_, wrapN (n := i + 1) rfl (by omega), ?_⟩
      repeat (conv => whnf); first|refine IndepAnd (by kernel_rfl) ?_|refine TreeAnd (by kernel_rfl) ?_|refine ⟨rfl,?_⟩|refine And.intro (by first|decide|exact trivial|exact Nat.le_of_ble_eq_true rfl|exact ⟨_,rfl,rfl⟩|exact ⟨rfl,trivial⟩|exact ⟨rfl,rfl,trivial⟩) ?_
      conv => whnf
      refine ⟨⟨i + 1, hlt, fun u hu => ?_⟩, ?_, by show l.length - (i + 1) < l.length - i; omega⟩
      · rw [List.take_succ_eq_append_getElem hlt, List.mem_append] at hu
        rcases hu with hu | hu
        · exact hq u hu
        · rw [List.mem_singleton.1 hu]; exact h2
      · refine Ge.of rfl ?_ ?_
        · repeat (conv => whnf); refine ⟨LE.of rfl, ?_⟩
          trivial
        · repeat (conv => whnf); refine ⟨OLE.of rfl, ?_⟩
          trivial
  · have hge : i = l.length := by have h1 := of_decide_eq_false h1; rw [tmvs_length] at h1; have h1 : ¬ (i : Int) < (l.length : Int) := h1; omega
    have hq : ∀ u ∈ l, q u = true := fun u hu => hq u (by show u ∈ l.take i; rw [hge, List.take_length]; exact hu)
    have hstop : stopT q l = i := by rw [stopT, takeWhile_all hq]; omega
    have hall : l.all q = true := List.all_eq_true.2 hq
    rw [hstop, hall]
    repeat (conv => whnf); first|refine IndepAnd (by kernel_rfl) ?_|refine TreeAnd (by kernel_rfl) ?_|refine ⟨rfl,?_⟩|refine And.intro (by first|decide|exact trivial|exact Nat.le_of_ble_eq_true rfl|exact ⟨_,rfl,rfl⟩|exact ⟨rfl,trivial⟩|exact ⟨rfl,rfl,trivial⟩) ?_
    conv => whnf
    exact ⟨gid, ⟨rfl, LE.of rfl⟩, ⟨.inr (.inl rfl), .inr (.inl rfl), .inr (.inl rfl), .inr (.inl rfl), trivial⟩, rfl, rfl⟩
end Go.Sl
/- mid -/
namespace Go.Sl
open Go Go.Vc Go.Proofs Go.RowKit

abbrev pubT (t : Tm) : Tm := .mk 8 [] [t]
def mkF : Nat → List Bs → Tm → Bool
  | 0, _, _ => false
  | n + 1, S, t => if txtT t = [] then false else if txtT t ∈ S then true else if t.kind = 1 then true else if t.kind = 2 then false else if t.kind = 9 then
      (match t.kids with | [x, y] => (mkF n S x && mkF n S (pubT y)) || (mkF n S y && mkF n S (pubT x)) | _ => false) else t.kids.all (mkF n S)
/-- Is a term made of others, that are told by their texts? -/
def mkB (S : List Bs) (t : Tm) : Bool := mkF t.size S t
theorem size_mem {t u : Tm} (h : u ∈ t.kids) : u.size < t.size := by
  rw [Tm.size_eq t]
  have : ∀ l : List Tm, u ∈ l → u.size ≤ Tm.sizes l := by
    intro l
    induction l with
    | nil => intro h; cases h
    | cons v l ih =>
      intro h
      simp only [Tm.sizes]
      cases h with
      | head => omega
      | tail _ h => have := ih h; omega
  have := this _ h
  omega
theorem size_pub {t x y : Tm} (h : t.kids = [x, y]) : (pubT x).size < t.size ∧ (pubT y).size < t.size := by
  rw [Tm.size_eq t, h]
  simp only [Tm.size, Tm.sizes]
  have hx : 0 < x.size := by cases x; simp [Tm.size]
  have hy : 0 < y.size := by cases y; simp [Tm.size]
  omega
theorem mkF_fuel (S : List Bs) : ∀ (n m : Nat) (t : Tm), t.size ≤ n → t.size ≤ m → mkF n S t = mkF m S t
  | 0, _, t, h, _ => by have : 0 < t.size := by cases t; simp [Tm.size]; 
                        omega
  | _, 0, t, _, h => by have : 0 < t.size := by cases t; simp [Tm.size]; 
                        omega
  | n + 1, m + 1, t, h1, h2 => by
    have hk : ∀ u, u.size < t.size → mkF n S u = mkF m S u := fun u hu => mkF_fuel S n m u (by omega) (by omega)
    simp only [mkF]
    congr 4
    · congr 1
      split
      · rename_i x y e
        have hp := size_pub e
        rw [hk x (size_mem (by rw [e]; simp)), hk y (size_mem (by rw [e]; simp)), hk _ hp.1, hk _ hp.2]
      · rfl
      · rw [Bool.eq_iff_iff, List.all_eq_true, List.all_eq_true]
        exact ⟨fun h u hu => by rw [← hk u (size_mem hu)]; exact h u hu, fun h u hu => by rw [hk u (size_mem hu)]; exact h u hu⟩
theorem mkB_eq (S : List Bs) (t : Tm) : mkB S t = if txtT t = [] then false else if txtT t ∈ S then true else if t.kind = 1 then true else if t.kind = 2 then false else if t.kind = 9 then
      (match t.kids with | [x, y] => (mkB S x && mkB S (pubT y)) || (mkB S y && mkB S (pubT x)) | _ => false) else t.kids.all (mkB S) := by
  obtain ⟨n, hn⟩ : ∃ n, t.size = n + 1 := ⟨t.size - 1, by have : 0 < t.size := by cases t; simp [Tm.size]
                                                          omega⟩
  have hk : ∀ u, u.size < t.size → mkF n S u = mkB S u := fun u hu => mkF_fuel S _ _ u (by omega) (Nat.le_refl _)
  rw [mkB, hn]
  simp only [mkF]
  congr 4
  congr 1
  · split
    · rename_i x y e
      have hp := size_pub e
      rw [hk x (size_mem (by rw [e]; simp)), hk y (size_mem (by rw [e]; simp)), hk _ hp.1, hk _ hp.2]
    · rfl
  · rw [Bool.eq_iff_iff, List.all_eq_true, List.all_eq_true]
    exact ⟨fun h u hu => by rw [← hk u (size_mem hu)]; exact h u hu, fun h u hu => by rw [hk u (size_mem hu)]; exact h u hu⟩
def putD (s : Bs) (b : Bool) : List (Bs × Bool) → List (Bs × Bool)
  | [] => [(s, b)]
  | (k, c) :: r => if s = k then (s, b) :: r else (k, c) :: putD s b r
theorem mdM_putD (s : Bs) (b : Bool) (D : List (Bs × Bool)) : mput (.s s) (.bool b) (mdM D) = mdM (putD s b D) := by
  induction D with
  | nil => rfl
  | cons x D ih =>
    obtain ⟨k, c⟩ := x
    show (if MK.s s = MK.s k then (MK.s s, PV.bool b) :: mdM D else (MK.s k, PV.bool c) :: mput (.s s) (.bool b) (mdM D)) = _
    by_cases e : s = k
    · subst e; rw [if_pos rfl, putD, if_pos rfl]; rfl
    · rw [if_neg (fun h => e (by injection h)), ih, putD, if_neg e]; rfl
theorem lookup_putD (s s' : Bs) (b : Bool) (D : List (Bs × Bool)) : (putD s b D).lookup s' = if s' = s then some b else D.lookup s' := by
  induction D with
  | nil =>
    by_cases e : s' = s
    · subst e; simp [putD, List.lookup]
    · have hb : (s' == s) = false := beq_eq_false_iff_ne.2 e
      simp [putD, List.lookup, hb, e]
  | cons x D ih =>
    obtain ⟨k, c⟩ := x
    by_cases e : s = k
    · subst e
      by_cases e2 : s' = s
      · subst e2; simp [putD, List.lookup]
      · have hb : (s' == s) = false := beq_eq_false_iff_ne.2 e2
        simp [putD, List.lookup, hb, e2]
    · rw [putD, if_neg e]
      by_cases e2 : s' = k
      · subst e2
        have : ¬ s' = s := fun h => e h.symm
        simp [List.lookup, this]
      · have hb : (s' == k) = false := beq_eq_false_iff_ne.2 e2
        simp only [List.lookup, hb, ih]
/-- What was found out is so. -/
def DOk (S : List Bs) (D : List (Bs × Bool)) : Prop := ∀ u b, txtT u ≠ [] → D.lookup (txtT u) = some b → b = mkB S u
theorem txtT_inj {t u : Tm} (h0 : txtT t ≠ []) (h : txtT t = txtT u) : t = u := by
  have h1 : shpD t 60 = true := by
    cases e : shpD t 60 with
    | true => rfl
    | false => rw [txtT, e] at h0; exact absurd rfl h0
  have h2 : shpD u 60 = true := by
    cases e : shpD u 60 with
    | true => rfl
    | false => rw [h, txtT, e] at h0; exact absurd rfl h0
  rw [txtT, if_pos h1, txtT, if_pos h2] at h
  exact (Tm.text_inj t u [] [] (shp_of_shpD t 60 h1) (shp_of_shpD u 60 h2) (by rw [h])).1
theorem DOk.put {S : List Bs} {D : List (Bs × Bool)} (h : DOk S D) (t : Tm) : DOk S (putD (txtT t) (mkB S t) D) := by
  intro u b hu hb
  rw [lookup_putD] at hb
  split at hb
  · rename_i e
    cases hb
    rw [txtT_inj hu e]
  · exact h u b hu hb
theorem DOk.nil (S : List Bs) : DOk S [] := fun u b _ h => by cases h
/-- One behind the other. -/
theorem chain_ok (L : List Tm) (S : List Bs) : ∀ (l : List Tm) (D : List (Bs × Bool)), DOk S D →
    (∀ u ∈ l, ∀ D, DOk S D → ∃ D', DOk S D' ∧ PM (cx true) 53 (KP L S D) [.ptr 2000 0, tv u] (KP L S D') (.p (.bool (mkB S u)))) →
    ∃ Ds : Nat → List (Bs × Bool), Ds 0 = D ∧ (∀ i, i ≤ l.length → DOk S (Ds i)) ∧ ∀ i (hi : i < l.length), PM (cx true) 53 (KP L S (Ds i)) [.ptr 2000 0, tv l[i]] (KP L S (Ds (i + 1))) (.p (.bool (mkB S l[i])))
  | [], D, hD, _ => ⟨fun _ => D, rfl, fun _ _ => hD, fun i hi => by simp at hi⟩
  | u :: l, D, hD, h => by
    obtain ⟨D1, h1, h2⟩ := h u (List.mem_cons_self ..) D hD
    obtain ⟨Ds, g1, g2, g3⟩ := chain_ok L S l D1 h1 fun v hv => h v (List.mem_cons_of_mem _ hv)
    refine ⟨fun i => match i with | 0 => D | i + 1 => Ds i, rfl, fun i hi => ?_, fun i hi => ?_⟩
    · cases i with
      | zero => exact hD
      | succ i => exact g2 i (by simpa using hi)
    · cases i with
      | zero => simp only [List.getElem_cons_zero]; rw [g1]; exact h2
      | succ i => exact g3 i (by simpa using hi)
theorem stop_le (q : Tm → Bool) (l : List Tm) : stopT q l ≤ l.length := Nat.min_le_left _ _
theorem alls_ok (L : List Tm) (S : List Bs) (l : List Tm) (D : List (Bs × Bool)) (hD : DOk S D) (hl : l.length ≤ 9223372036854775807)
    (h : ∀ u ∈ l, ∀ D, DOk S D → ∃ D', DOk S D' ∧ PM (cx true) 53 (KP L S D) [.ptr 2000 0, tv u] (KP L S D') (.p (.bool (mkB S u)))) :
    ∃ D', DOk S D' ∧ PM (cx true) 51 (KP L S D) [.ptr 2000 0, lv l] (KP L S D') (.p (.bool (l.all (mkB S)))) := by
  obtain ⟨Ds, g1, g2, g3⟩ := chain_ok L S l D hD h
  refine ⟨Ds (stopT (mkB S) l), g2 _ (stop_le _ _), ?_⟩
  have := all_ok L S (mkB S) l Ds hl g3
  rwa [g1] at this
end Go.Sl
/- mid -/
namespace Go.Sl
open Go Go.Vc Go.Proofs Go.RowKit

theorem pub_ok (b : Bool) (k : Tm) : K b 23 [tv k] (.pv (TV (pubT k))) := by
  refine PC_of_vc (cx_ok b) (mixed b) {} Tryd.func23 (by kernel_rfl) rfl rfl (by kernel_rfl) ?_
  repeat (conv => whnf); first|refine IndepAnd (by kernel_rfl) ?_|refine TreeAnd (by kernel_rfl) ?_|refine ⟨rfl,?_⟩|refine And.intro (by first|decide|exact trivial|exact Nat.le_of_ble_eq_true rfl|exact ⟨_,rfl,rfl⟩|exact ⟨rfl,trivial⟩|exact ⟨rfl,rfl,trivial⟩) ?_
  conv => whnf
  refine ⟨_, CallVC.pr (made_ok b 8 [] _ [k] (tmvs1 k) (by simp)) rfl rfl, ?_⟩
  repeat (conv => whnf); first|refine IndepAnd (by kernel_rfl) ?_|refine TreeAnd (by kernel_rfl) ?_|refine ⟨rfl,?_⟩|refine And.intro (by first|decide|exact trivial|exact Nat.le_of_ble_eq_true rfl|exact ⟨_,rfl,rfl⟩|exact ⟨rfl,trivial⟩|exact ⟨rfl,rfl,trivial⟩) ?_
  conv => whnf
  exact LEP.refl _
theorem txt_shp {t : Tm} (h : ¬ txtT t = []) : shpD t 60 = true := by
  cases e : shpD t 60 with
  | true => rfl
  | false => rw [txtT, e] at h; exact absurd rfl h
theorem makes_ok (L : List Tm) (S : List Bs) : ∀ (n : Nat) (t : Tm), t.size ≤ n → Fit t → wt t ≤ 1000000000 → ∀ D, DOk S D → ∃ D', DOk S D' ∧ PM (cx true) 53 (KP L S D) [.ptr 2000 0, tv t] (KP L S D') (.p (.bool (mkB S t)))
  | 0, t, hn, _, _, _, _ => by
    have : 0 < t.size := by cases t; simp [Tm.size]
    omega
  | n + 1, t, hn, hf, hw, D, hD => by
    have ih : ∀ u, u.size < t.size → Fit u → wt u ≤ wt t → ∀ D, DOk S D → ∃ D', DOk S D' ∧ PM (cx true) 53 (KP L S D) [.ptr 2000 0, tv u] (KP L S D') (.p (.bool (mkB S u))) :=
      fun u hu fu hwu D hD => makes_ok L S n u (by omega) fu (by omega) D hD
    have ihk : ∀ u ∈ t.kids, ∀ D, DOk S D → ∃ D', DOk S D' ∧ PM (cx true) 53 (KP L S D) [.ptr 2000 0, tv u] (KP L S D') (.p (.bool (mkB S u))) :=
      fun u hu => ih u (size_mem hu) (hf.kid hu) (by have := wts_mem hu; have := wt_eq t; omega)
    have hT := Text_ok t hf fun _ => text_big hf hw
    have hmk := mkB_eq S t
    -- how it is told what follows, for whatever is found out last
    have start : ∀ (D2 : List (Bs × Bool)), True := fun _ => trivial
    by_cases h1 : txtT t = []
    · refine ⟨D, hD, ?_⟩
      rw [hmk, if_pos h1]
      refine PM_of_vc (cx_ok true) (mixed true) {} Tryd.func53 (by kernel_rfl) rfl rfl (by kernel_rfl) rfl ?_
      repeat (conv => whnf); first|refine IndepAnd (by kernel_rfl) ?_|refine TreeAnd (by kernel_rfl) ?_|refine ⟨rfl,?_⟩|refine And.intro (by first|decide|exact trivial|exact Nat.le_of_ble_eq_true rfl|exact ⟨_,rfl,rfl⟩|exact ⟨rfl,trivial⟩|exact ⟨rfl,rfl,trivial⟩) ?_
      conv => whnf
      refine ⟨_, CallVC.pr hT rfl rfl, ?_⟩
      rw [h1]
      repeat (conv => whnf); first|refine IndepAnd (by kernel_rfl) ?_|refine TreeAnd (by kernel_rfl) ?_|refine ⟨rfl,?_⟩|refine And.intro (by first|decide|exact trivial|exact Nat.le_of_ble_eq_true rfl|exact ⟨_,rfl,rfl⟩|exact ⟨rfl,trivial⟩|exact ⟨rfl,rfl,trivial⟩) ?_
      conv => whnf
      exact ⟨gid, ⟨rfl, LE.of rfl⟩, ⟨.inr (.inl rfl), .inr (.inl rfl), .inr (.inl rfl), .inr (.inl rfl), trivial⟩, rfl, rfl⟩
    · by_cases h2 : txtT t ∈ S
      · refine ⟨D, hD, ?_⟩
        rw [hmk, if_neg h1, if_pos h2]
        refine PM_of_vc (cx_ok true) (mixed true) {} Tryd.func53 (by kernel_rfl) rfl rfl (by kernel_rfl) rfl ?_
        repeat (conv => whnf); first|refine IndepAnd (by kernel_rfl) ?_|refine TreeAnd (by kernel_rfl) ?_|refine ⟨rfl,?_⟩|refine And.intro (by first|decide|exact trivial|exact Nat.le_of_ble_eq_true rfl|exact ⟨_,rfl,rfl⟩|exact ⟨rfl,trivial⟩|exact ⟨rfl,rfl,trivial⟩) ?_
        conv => whnf
        refine ⟨_, CallVC.pr hT rfl rfl, ?_⟩
        repeat (conv => whnf); first|refine IndepAnd (by kernel_rfl) ?_|refine TreeAnd (by kernel_rfl) ?_|refine ⟨rfl,?_⟩|refine And.intro (by first|decide|exact trivial|exact Nat.le_of_ble_eq_true rfl|exact ⟨_,rfl,rfl⟩|exact ⟨rfl,trivial⟩|exact ⟨rfl,rfl,trivial⟩) ?_
        conv => whnf
        refine @bool_rec _ _ _ ?_ ?_ <;> intro h3
        · exact absurd (of_decide_eq_true h3) h1
        repeat (conv => whnf); first|refine IndepAnd (by kernel_rfl) ?_|refine TreeAnd (by kernel_rfl) ?_|refine ⟨rfl,?_⟩|refine And.intro (by first|decide|exact trivial|exact Nat.le_of_ble_eq_true rfl|exact ⟨_,rfl,rfl⟩|exact ⟨rfl,trivial⟩|exact ⟨rfl,rfl,trivial⟩) ?_
        conv => whnf
        refine ⟨_, isM_get (txtT t) S, ?_⟩
        rw [if_pos h2]
        repeat (conv => whnf); first|refine IndepAnd (by kernel_rfl) ?_|refine TreeAnd (by kernel_rfl) ?_|refine ⟨rfl,?_⟩|refine And.intro (by first|decide|exact trivial|exact Nat.le_of_ble_eq_true rfl|exact ⟨_,rfl,rfl⟩|exact ⟨rfl,trivial⟩|exact ⟨rfl,rfl,trivial⟩) ?_
        conv => whnf
        refine ⟨gid, ⟨rfl, LE.of (congrArg (fun b => SV.p (PV.bool b)) (decide_eq_true h1))⟩, ⟨.inr (.inl rfl), .inr (.inl rfl), .inr (.inl rfl), .inr (.inl rfl), trivial⟩, rfl, rfl⟩
      · cases h3 : D.lookup (txtT t) with
        | some b =>
          have hb := hD t b h1 h3
          refine ⟨D, hD, ?_⟩
          rw [← hb]
          refine PM_of_vc (cx_ok true) (mixed true) {} Tryd.func53 (by kernel_rfl) rfl rfl (by kernel_rfl) rfl ?_
          repeat (conv => whnf); first|refine IndepAnd (by kernel_rfl) ?_|refine TreeAnd (by kernel_rfl) ?_|refine ⟨rfl,?_⟩|refine And.intro (by first|decide|exact trivial|exact Nat.le_of_ble_eq_true rfl|exact ⟨_,rfl,rfl⟩|exact ⟨rfl,trivial⟩|exact ⟨rfl,rfl,trivial⟩) ?_
          conv => whnf
          refine ⟨_, CallVC.pr hT rfl rfl, ?_⟩
          repeat (conv => whnf); first|refine IndepAnd (by kernel_rfl) ?_|refine TreeAnd (by kernel_rfl) ?_|refine ⟨rfl,?_⟩|refine And.intro (by first|decide|exact trivial|exact Nat.le_of_ble_eq_true rfl|exact ⟨_,rfl,rfl⟩|exact ⟨rfl,trivial⟩|exact ⟨rfl,rfl,trivial⟩) ?_
          conv => whnf
          refine @bool_rec _ _ _ ?_ ?_ <;> intro h4
          · exact absurd (of_decide_eq_true h4) h1
          repeat (conv => whnf); first|refine IndepAnd (by kernel_rfl) ?_|refine TreeAnd (by kernel_rfl) ?_|refine ⟨rfl,?_⟩|refine And.intro (by first|decide|exact trivial|exact Nat.le_of_ble_eq_true rfl|exact ⟨_,rfl,rfl⟩|exact ⟨rfl,trivial⟩|exact ⟨rfl,rfl,trivial⟩) ?_
          conv => whnf
          refine ⟨_, isM_get (txtT t) S, ?_⟩
          rw [if_neg h2]
          repeat (conv => whnf); first|refine IndepAnd (by kernel_rfl) ?_|refine TreeAnd (by kernel_rfl) ?_|refine ⟨rfl,?_⟩|refine And.intro (by first|decide|exact trivial|exact Nat.le_of_ble_eq_true rfl|exact ⟨_,rfl,rfl⟩|exact ⟨rfl,trivial⟩|exact ⟨rfl,rfl,trivial⟩) ?_
          conv => whnf
          refine ⟨_, mdM_get (txtT t) D, ?_⟩
          rw [h3]
          repeat (conv => whnf); first|refine IndepAnd (by kernel_rfl) ?_|refine TreeAnd (by kernel_rfl) ?_|refine ⟨rfl,?_⟩|refine And.intro (by first|decide|exact trivial|exact Nat.le_of_ble_eq_true rfl|exact ⟨_,rfl,rfl⟩|exact ⟨rfl,trivial⟩|exact ⟨rfl,rfl,trivial⟩) ?_
          conv => whnf
          exact ⟨gid, ⟨rfl, LE.of rfl⟩, ⟨.inr (.inl rfl), .inr (.inl rfl), .inr (.inl rfl), .inr (.inl rfl), trivial⟩, rfl, rfl⟩
        | none =>
          have hput : ∀ b D2, mkB S t = b → DOk S D2 → DOk S (putD (txtT t) b D2) := fun b D2 e h => by rw [← e]; exact h.put t
          rw [if_neg h1, if_neg h2] at hmk
          by_cases k1 : t.kind = 1
          · rw [if_pos k1] at hmk
            refine ⟨putD (txtT t) true D, hput _ _ hmk hD, ?_⟩
            rw [hmk]
            refine PM_of_vc (cx_ok true) (mixed true) { own := fun q => Nat.beq q 100061 || Nat.beq q 100068 || Nat.beq q 100041, ps := psT [(14, [9, 10])], kp := kpT [(14, [0, 3, 4, 5, 8], [3, 2000, 2001, 2002, 2003]), (15, [0, 3, 4, 5, 8, 9, 10], [3, 9, 10, 2000, 2001, 2002, 2003])] } Tryd.func53 (by kernel_rfl) rfl rfl (by kernel_rfl) rfl ?_
            repeat (conv => whnf); first|refine IndepAnd (by kernel_rfl) ?_|refine TreeAnd (by kernel_rfl) ?_|refine ⟨rfl,?_⟩|refine And.intro (by first|decide|exact trivial|exact Nat.le_of_ble_eq_true rfl|exact ⟨_,rfl,rfl⟩|exact ⟨rfl,trivial⟩|exact ⟨rfl,rfl,trivial⟩) ?_
            conv => whnf
            refine ⟨_, CallVC.pr hT rfl rfl, ?_⟩
            repeat (conv => whnf); first|refine IndepAnd (by kernel_rfl) ?_|refine TreeAnd (by kernel_rfl) ?_|refine ⟨rfl,?_⟩|refine And.intro (by first|decide|exact trivial|exact Nat.le_of_ble_eq_true rfl|exact ⟨_,rfl,rfl⟩|exact ⟨rfl,trivial⟩|exact ⟨rfl,rfl,trivial⟩) ?_
            conv => whnf
            refine @bool_rec _ _ _ ?_ ?_ <;> intro h4
            · exact absurd (of_decide_eq_true h4) h1
            repeat (conv => whnf); first|refine IndepAnd (by kernel_rfl) ?_|refine TreeAnd (by kernel_rfl) ?_|refine ⟨rfl,?_⟩|refine And.intro (by first|decide|exact trivial|exact Nat.le_of_ble_eq_true rfl|exact ⟨_,rfl,rfl⟩|exact ⟨rfl,trivial⟩|exact ⟨rfl,rfl,trivial⟩) ?_
            conv => whnf
            refine ⟨_, isM_get (txtT t) S, ?_⟩
            rw [if_neg h2]
            repeat (conv => whnf); first|refine IndepAnd (by kernel_rfl) ?_|refine TreeAnd (by kernel_rfl) ?_|refine ⟨rfl,?_⟩|refine And.intro (by first|decide|exact trivial|exact Nat.le_of_ble_eq_true rfl|exact ⟨_,rfl,rfl⟩|exact ⟨rfl,trivial⟩|exact ⟨rfl,rfl,trivial⟩) ?_
            conv => whnf
            refine ⟨_, mdM_get (txtT t) D, ?_⟩
            rw [h3]
            repeat (conv => whnf); first|refine IndepAnd (by kernel_rfl) ?_|refine TreeAnd (by kernel_rfl) ?_|refine ⟨rfl,?_⟩|refine And.intro (by first|decide|exact trivial|exact Nat.le_of_ble_eq_true rfl|exact ⟨_,rfl,rfl⟩|exact ⟨rfl,trivial⟩|exact ⟨rfl,rfl,trivial⟩) ?_
            conv => whnf
            refine @bool_rec _ _ _ ?_ ?_ <;> intro h5
            · skip
              repeat (conv => whnf); first|refine IndepAnd (by kernel_rfl) ?_|refine TreeAnd (by kernel_rfl) ?_|refine ⟨rfl,?_⟩|refine And.intro (by first|decide|exact trivial|exact Nat.le_of_ble_eq_true rfl|exact ⟨_,rfl,rfl⟩|exact ⟨rfl,trivial⟩|exact ⟨rfl,rfl,trivial⟩) ?_
              conv => whnf
              exact ⟨gid, ⟨rfl, LE.of rfl⟩, ⟨.inr (.inl rfl), .inr (.inl rfl), .inr (.inl rfl), .inr (.inl (congrArg (AO.mp 37 true) (mdM_putD (txtT t) true D))), trivial⟩, rfl, rfl⟩
            · exact absurd k1 (of_decide_eq_false h5)
          by_cases k2 : t.kind = 2
          · rw [if_neg k1, if_pos k2] at hmk
            refine ⟨putD (txtT t) false D, hput _ _ hmk hD, ?_⟩
            rw [hmk]
            refine PM_of_vc (cx_ok true) (mixed true) { own := fun q => Nat.beq q 100061 || Nat.beq q 100068 || Nat.beq q 100041, ps := psT [(14, [9, 10])], kp := kpT [(14, [0, 3, 4, 5, 8], [3, 2000, 2001, 2002, 2003]), (15, [0, 3, 4, 5, 8, 9, 10], [3, 9, 10, 2000, 2001, 2002, 2003])] } Tryd.func53 (by kernel_rfl) rfl rfl (by kernel_rfl) rfl ?_
            repeat (conv => whnf); first|refine IndepAnd (by kernel_rfl) ?_|refine TreeAnd (by kernel_rfl) ?_|refine ⟨rfl,?_⟩|refine And.intro (by first|decide|exact trivial|exact Nat.le_of_ble_eq_true rfl|exact ⟨_,rfl,rfl⟩|exact ⟨rfl,trivial⟩|exact ⟨rfl,rfl,trivial⟩) ?_
            conv => whnf
            refine ⟨_, CallVC.pr hT rfl rfl, ?_⟩
            repeat (conv => whnf); first|refine IndepAnd (by kernel_rfl) ?_|refine TreeAnd (by kernel_rfl) ?_|refine ⟨rfl,?_⟩|refine And.intro (by first|decide|exact trivial|exact Nat.le_of_ble_eq_true rfl|exact ⟨_,rfl,rfl⟩|exact ⟨rfl,trivial⟩|exact ⟨rfl,rfl,trivial⟩) ?_
            conv => whnf
            refine @bool_rec _ _ _ ?_ ?_ <;> intro h4
            · exact absurd (of_decide_eq_true h4) h1
            repeat (conv => whnf); first|refine IndepAnd (by kernel_rfl) ?_|refine TreeAnd (by kernel_rfl) ?_|refine ⟨rfl,?_⟩|refine And.intro (by first|decide|exact trivial|exact Nat.le_of_ble_eq_true rfl|exact ⟨_,rfl,rfl⟩|exact ⟨rfl,trivial⟩|exact ⟨rfl,rfl,trivial⟩) ?_
            conv => whnf
            refine ⟨_, isM_get (txtT t) S, ?_⟩
            rw [if_neg h2]
            repeat (conv => whnf); first|refine IndepAnd (by kernel_rfl) ?_|refine TreeAnd (by kernel_rfl) ?_|refine ⟨rfl,?_⟩|refine And.intro (by first|decide|exact trivial|exact Nat.le_of_ble_eq_true rfl|exact ⟨_,rfl,rfl⟩|exact ⟨rfl,trivial⟩|exact ⟨rfl,rfl,trivial⟩) ?_
            conv => whnf
            refine ⟨_, mdM_get (txtT t) D, ?_⟩
            rw [h3]
            repeat (conv => whnf); first|refine IndepAnd (by kernel_rfl) ?_|refine TreeAnd (by kernel_rfl) ?_|refine ⟨rfl,?_⟩|refine And.intro (by first|decide|exact trivial|exact Nat.le_of_ble_eq_true rfl|exact ⟨_,rfl,rfl⟩|exact ⟨rfl,trivial⟩|exact ⟨rfl,rfl,trivial⟩) ?_
            conv => whnf
            refine @bool_rec _ _ _ ?_ ?_ <;> intro h5
            · exact absurd (of_decide_eq_true h5) k1
            repeat (conv => whnf); first|refine IndepAnd (by kernel_rfl) ?_|refine TreeAnd (by kernel_rfl) ?_|refine ⟨rfl,?_⟩|refine And.intro (by first|decide|exact trivial|exact Nat.le_of_ble_eq_true rfl|exact ⟨_,rfl,rfl⟩|exact ⟨rfl,trivial⟩|exact ⟨rfl,rfl,trivial⟩) ?_
            conv => whnf
            refine @bool_rec _ _ _ ?_ ?_ <;> intro h6
            · skip
              repeat (conv => whnf); first|refine IndepAnd (by kernel_rfl) ?_|refine TreeAnd (by kernel_rfl) ?_|refine ⟨rfl,?_⟩|refine And.intro (by first|decide|exact trivial|exact Nat.le_of_ble_eq_true rfl|exact ⟨_,rfl,rfl⟩|exact ⟨rfl,trivial⟩|exact ⟨rfl,rfl,trivial⟩) ?_
              conv => whnf
              exact ⟨gid, ⟨rfl, LE.of rfl⟩, ⟨.inr (.inl rfl), .inr (.inl rfl), .inr (.inl rfl), .inr (.inl (congrArg (AO.mp 37 true) (mdM_putD (txtT t) false D))), trivial⟩, rfl, rfl⟩
            · exact absurd k2 (of_decide_eq_false h6)
          by_cases k9 : t.kind = 9
          · rw [if_neg k1, if_neg k2, if_pos k9] at hmk
            have hshp := txt_shp h1
            have hlen := share_len (shp_of_shpD t 60 hshp) k9
            obtain ⟨x, y, hxy⟩ : ∃ x y, t.kids = [x, y] := by
              match t.kids, hlen with
              | [x, y], _ => exact ⟨x, y, rfl⟩
            have hk0 : (tmvs t.kids)[0]? = some (TV x) := by rw [hxy, ← tmvs2]; rfl
            have hk1 : (tmvs t.kids)[1]? = some (TV y) := by rw [hxy, ← tmvs2]; rfl
            have fx : Fit x := hf.kid (by rw [hxy]; simp)
            have fy : Fit y := hf.kid (by rw [hxy]; simp)
            have hwt : wt x + wt y + 1 ≤ wt t := by rw [wt_eq t, hxy]; simp only [wts]; omega
            have hsp := size_pub hxy
            have fpub : ∀ u, Fit u → Fit (pubT u) := fun u h => Fit.mk (by simp) (by decide) (by simp [h])
            have wpub : ∀ u, wt (pubT u) = wt u + 1 := fun u => by simp [wt, wts]
            have ihA : ∀ u ∈ [x, pubT y], ∀ D, DOk S D → ∃ D', DOk S D' ∧ PM (cx true) 53 (KP L S D) [.ptr 2000 0, tv u] (KP L S D') (.p (.bool (mkB S u))) := by
              intro u hu
              simp only [List.mem_cons, List.not_mem_nil, or_false] at hu
              rcases hu with rfl | rfl
              · exact ihk u (by rw [hxy]; simp)
              · exact ih _ (by first | exact hsp.1 | exact hsp.2) (fpub _ (by assumption)) (by rw [wpub]; omega)
            have ihB : ∀ u ∈ [y, pubT x], ∀ D, DOk S D → ∃ D', DOk S D' ∧ PM (cx true) 53 (KP L S D) [.ptr 2000 0, tv u] (KP L S D') (.p (.bool (mkB S u))) := by
              intro u hu
              simp only [List.mem_cons, List.not_mem_nil, or_false] at hu
              rcases hu with rfl | rfl
              · exact ihk u (by rw [hxy]; simp)
              · exact ih _ (by first | exact hsp.1 | exact hsp.2) (fpub _ (by assumption)) (by rw [wpub]; omega)
            obtain ⟨Da, a1, a2⟩ := alls_ok L S [x, pubT y] D hD (by simp) ihA
            obtain ⟨Db, b1, b2⟩ := alls_ok L S [y, pubT x] Da a1 (by simp) ihB
            rw [hxy] at hmk
            have e1 : [x, pubT y].all (mkB S) = (mkB S x && mkB S (pubT y)) := by simp
            have e2 : [y, pubT x].all (mkB S) = (mkB S y && mkB S (pubT x)) := by simp
            have hmk : mkB S t = ([x, pubT y].all (mkB S) || [y, pubT x].all (mkB S)) := by rw [e1, e2]; exact hmk
            cases hb : [x, pubT y].all (mkB S) with
            | true =>
              rw [hb, Bool.true_or] at hmk
              refine ⟨putD (txtT t) true Da, hput _ _ hmk a1, ?_⟩
              rw [hmk]
              rw [hb] at a2
              refine PM_of_vc (cx_ok true) (mixed true) { own := fun q => Nat.beq q 100061 || Nat.beq q 100068 || Nat.beq q 100041, ps := psT [(14, [9, 10])], kp := kpT [(14, [0, 3, 4, 5, 8], [3, 2000, 2001, 2002, 2003]), (15, [0, 3, 4, 5, 8, 9, 10], [3, 9, 10, 2000, 2001, 2002, 2003])] } Tryd.func53 (by kernel_rfl) rfl rfl (by kernel_rfl) rfl ?_
              repeat (conv => whnf); first|refine IndepAnd (by kernel_rfl) ?_|refine TreeAnd (by kernel_rfl) ?_|refine ⟨rfl,?_⟩|refine And.intro (by first|decide|exact trivial|exact Nat.le_of_ble_eq_true rfl|exact ⟨_,rfl,rfl⟩|exact ⟨rfl,trivial⟩|exact ⟨rfl,rfl,trivial⟩) ?_
              conv => whnf
              refine ⟨_, CallVC.pr hT rfl rfl, ?_⟩
              repeat (conv => whnf); first|refine IndepAnd (by kernel_rfl) ?_|refine TreeAnd (by kernel_rfl) ?_|refine ⟨rfl,?_⟩|refine And.intro (by first|decide|exact trivial|exact Nat.le_of_ble_eq_true rfl|exact ⟨_,rfl,rfl⟩|exact ⟨rfl,trivial⟩|exact ⟨rfl,rfl,trivial⟩) ?_
              conv => whnf
              refine @bool_rec _ _ _ ?_ ?_ <;> intro h4
              · exact absurd (of_decide_eq_true h4) h1
              repeat (conv => whnf); first|refine IndepAnd (by kernel_rfl) ?_|refine TreeAnd (by kernel_rfl) ?_|refine ⟨rfl,?_⟩|refine And.intro (by first|decide|exact trivial|exact Nat.le_of_ble_eq_true rfl|exact ⟨_,rfl,rfl⟩|exact ⟨rfl,trivial⟩|exact ⟨rfl,rfl,trivial⟩) ?_
              conv => whnf
              refine ⟨_, isM_get (txtT t) S, ?_⟩
              rw [if_neg h2]
              repeat (conv => whnf); first|refine IndepAnd (by kernel_rfl) ?_|refine TreeAnd (by kernel_rfl) ?_|refine ⟨rfl,?_⟩|refine And.intro (by first|decide|exact trivial|exact Nat.le_of_ble_eq_true rfl|exact ⟨_,rfl,rfl⟩|exact ⟨rfl,trivial⟩|exact ⟨rfl,rfl,trivial⟩) ?_
              conv => whnf
              refine ⟨_, mdM_get (txtT t) D, ?_⟩
              rw [h3]
              repeat (conv => whnf); first|refine IndepAnd (by kernel_rfl) ?_|refine TreeAnd (by kernel_rfl) ?_|refine ⟨rfl,?_⟩|refine And.intro (by first|decide|exact trivial|exact Nat.le_of_ble_eq_true rfl|exact ⟨_,rfl,rfl⟩|exact ⟨rfl,trivial⟩|exact ⟨rfl,rfl,trivial⟩) ?_
              conv => whnf
              refine @bool_rec _ _ _ ?_ ?_ <;> intro h5
              · exact absurd (of_decide_eq_true h5) k1
              repeat (conv => whnf); first|refine IndepAnd (by kernel_rfl) ?_|refine TreeAnd (by kernel_rfl) ?_|refine ⟨rfl,?_⟩|refine And.intro (by first|decide|exact trivial|exact Nat.le_of_ble_eq_true rfl|exact ⟨_,rfl,rfl⟩|exact ⟨rfl,trivial⟩|exact ⟨rfl,rfl,trivial⟩) ?_
              conv => whnf
              refine @bool_rec _ _ _ ?_ ?_ <;> intro h6
              · exact absurd (of_decide_eq_true h6) k2
              repeat (conv => whnf); first|refine IndepAnd (by kernel_rfl) ?_|refine TreeAnd (by kernel_rfl) ?_|refine ⟨rfl,?_⟩|refine And.intro (by first|decide|exact trivial|exact Nat.le_of_ble_eq_true rfl|exact ⟨_,rfl,rfl⟩|exact ⟨rfl,trivial⟩|exact ⟨rfl,rfl,trivial⟩) ?_
              conv => whnf
              refine @bool_rec _ _ _ ?_ ?_ <;> intro h7
              case refine_2 => exact absurd k9 (of_decide_eq_false h7)
              repeat (conv => whnf); first|refine IndepAnd (by kernel_rfl) ?_|refine TreeAnd (by kernel_rfl) ?_|refine ⟨rfl,?_⟩|refine And.intro (by first|decide|exact trivial|exact Nat.le_of_ble_eq_true rfl|exact ⟨_,rfl,rfl⟩|exact ⟨rfl,trivial⟩|exact ⟨rfl,rfl,trivial⟩) ?_
              conv => whnf
              refine ⟨_, hk0, rfl, rfl, ?_⟩
              repeat (conv => whnf); first|refine IndepAnd (by kernel_rfl) ?_|refine TreeAnd (by kernel_rfl) ?_|refine ⟨rfl,?_⟩|refine And.intro (by first|decide|exact trivial|exact Nat.le_of_ble_eq_true rfl|exact ⟨_,rfl,rfl⟩|exact ⟨rfl,trivial⟩|exact ⟨rfl,rfl,trivial⟩) ?_
              conv => whnf
              refine ⟨_, hk1, rfl, rfl, ?_⟩
              repeat (conv => whnf); first|refine IndepAnd (by kernel_rfl) ?_|refine TreeAnd (by kernel_rfl) ?_|refine ⟨rfl,?_⟩|refine And.intro (by first|decide|exact trivial|exact Nat.le_of_ble_eq_true rfl|exact ⟨_,rfl,rfl⟩|exact ⟨rfl,trivial⟩|exact ⟨rfl,rfl,trivial⟩) ?_
              conv => whnf
              refine ⟨_, CallVC.pr (pub_ok true y) rfl rfl, ?_⟩
              repeat (conv => whnf); first|refine IndepAnd (by kernel_rfl) ?_|refine TreeAnd (by kernel_rfl) ?_|refine ⟨rfl,?_⟩|refine And.intro (by first|decide|exact trivial|exact Nat.le_of_ble_eq_true rfl|exact ⟨_,rfl,rfl⟩|exact ⟨rfl,trivial⟩|exact ⟨rfl,rfl,trivial⟩) ?_
              conv => whnf
              refine ⟨_, MCallVC.pr gid a2 ⟨LE.of rfl, LE.of (congrArg (fun l => SV.p (PV.lst l)) (tmvs2 x (pubT y))), trivial⟩ ⟨.inr (.inl rfl), .inr (.inl rfl), .inr (.inl rfl), .inr (.inl rfl), trivial⟩ rfl, ?_⟩
              repeat (conv => whnf); first|refine IndepAnd (by kernel_rfl) ?_|refine TreeAnd (by kernel_rfl) ?_|refine ⟨rfl,?_⟩|refine And.intro (by first|decide|exact trivial|exact Nat.le_of_ble_eq_true rfl|exact ⟨_,rfl,rfl⟩|exact ⟨rfl,trivial⟩|exact ⟨rfl,rfl,trivial⟩) ?_
              conv => whnf
              exact ⟨gid, ⟨rfl, LE.of rfl⟩, ⟨.inr (.inl rfl), .inr (.inl rfl), .inr (.inl rfl), .inr (.inl (congrArg (AO.mp 37 true) (mdM_putD (txtT t) true Da))), trivial⟩, rfl, rfl⟩
            | false =>
              rw [hb, Bool.false_or] at hmk
              refine ⟨putD (txtT t) ([y, pubT x].all (mkB S)) Db, hput _ _ hmk b1, ?_⟩
              rw [hmk]
              rw [hb] at a2
              refine PM_of_vc (cx_ok true) (mixed true) { own := fun q => Nat.beq q 100061 || Nat.beq q 100068 || Nat.beq q 100041, ps := psT [(14, [9, 10])], kp := kpT [(14, [0, 3, 4, 5, 8], [3, 2000, 2001, 2002, 2003]), (15, [0, 3, 4, 5, 8, 9, 10], [3, 9, 10, 2000, 2001, 2002, 2003])] } Tryd.func53 (by kernel_rfl) rfl rfl (by kernel_rfl) rfl ?_
              repeat (conv => whnf); first|refine IndepAnd (by kernel_rfl) ?_|refine TreeAnd (by kernel_rfl) ?_|refine ⟨rfl,?_⟩|refine And.intro (by first|decide|exact trivial|exact Nat.le_of_ble_eq_true rfl|exact ⟨_,rfl,rfl⟩|exact ⟨rfl,trivial⟩|exact ⟨rfl,rfl,trivial⟩) ?_
              conv => whnf
              refine ⟨_, CallVC.pr hT rfl rfl, ?_⟩
              repeat (conv => whnf); first|refine IndepAnd (by kernel_rfl) ?_|refine TreeAnd (by kernel_rfl) ?_|refine ⟨rfl,?_⟩|refine And.intro (by first|decide|exact trivial|exact Nat.le_of_ble_eq_true rfl|exact ⟨_,rfl,rfl⟩|exact ⟨rfl,trivial⟩|exact ⟨rfl,rfl,trivial⟩) ?_
              conv => whnf
              refine @bool_rec _ _ _ ?_ ?_ <;> intro h4
              · exact absurd (of_decide_eq_true h4) h1
              repeat (conv => whnf); first|refine IndepAnd (by kernel_rfl) ?_|refine TreeAnd (by kernel_rfl) ?_|refine ⟨rfl,?_⟩|refine And.intro (by first|decide|exact trivial|exact Nat.le_of_ble_eq_true rfl|exact ⟨_,rfl,rfl⟩|exact ⟨rfl,trivial⟩|exact ⟨rfl,rfl,trivial⟩) ?_
              conv => whnf
              refine ⟨_, isM_get (txtT t) S, ?_⟩
              rw [if_neg h2]
              repeat (conv => whnf); first|refine IndepAnd (by kernel_rfl) ?_|refine TreeAnd (by kernel_rfl) ?_|refine ⟨rfl,?_⟩|refine And.intro (by first|decide|exact trivial|exact Nat.le_of_ble_eq_true rfl|exact ⟨_,rfl,rfl⟩|exact ⟨rfl,trivial⟩|exact ⟨rfl,rfl,trivial⟩) ?_
              conv => whnf
              refine ⟨_, mdM_get (txtT t) D, ?_⟩
              rw [h3]
              repeat (conv => whnf); first|refine IndepAnd (by kernel_rfl) ?_|refine TreeAnd (by kernel_rfl) ?_|refine ⟨rfl,?_⟩|refine And.intro (by first|decide|exact trivial|exact Nat.le_of_ble_eq_true rfl|exact ⟨_,rfl,rfl⟩|exact ⟨rfl,trivial⟩|exact ⟨rfl,rfl,trivial⟩) ?_
              conv => whnf
              refine @bool_rec _ _ _ ?_ ?_ <;> intro h5
              · exact absurd (of_decide_eq_true h5) k1
              repeat (conv => whnf); first|refine IndepAnd (by kernel_rfl) ?_|refine TreeAnd (by kernel_rfl) ?_|refine ⟨rfl,?_⟩|refine And.intro (by first|decide|exact trivial|exact Nat.le_of_ble_eq_true rfl|exact ⟨_,rfl,rfl⟩|exact ⟨rfl,trivial⟩|exact ⟨rfl,rfl,trivial⟩) ?_
              conv => whnf
              refine @bool_rec _ _ _ ?_ ?_ <;> intro h6
              · exact absurd (of_decide_eq_true h6) k2
              repeat (conv => whnf); first|refine IndepAnd (by kernel_rfl) ?_|refine TreeAnd (by kernel_rfl) ?_|refine ⟨rfl,?_⟩|refine And.intro (by first|decide|exact trivial|exact Nat.le_of_ble_eq_true rfl|exact ⟨_,rfl,rfl⟩|exact ⟨rfl,trivial⟩|exact ⟨rfl,rfl,trivial⟩) ?_
              conv => whnf
              refine @bool_rec _ _ _ ?_ ?_ <;> intro h7
              case refine_2 => exact absurd k9 (of_decide_eq_false h7)
              repeat (conv => whnf); first|refine IndepAnd (by kernel_rfl) ?_|refine TreeAnd (by kernel_rfl) ?_|refine ⟨rfl,?_⟩|refine And.intro (by first|decide|exact trivial|exact Nat.le_of_ble_eq_true rfl|exact ⟨_,rfl,rfl⟩|exact ⟨rfl,trivial⟩|exact ⟨rfl,rfl,trivial⟩) ?_
              conv => whnf
              refine ⟨_, hk0, rfl, rfl, ?_⟩
              repeat (conv => whnf); first|refine IndepAnd (by kernel_rfl) ?_|refine TreeAnd (by kernel_rfl) ?_|refine ⟨rfl,?_⟩|refine And.intro (by first|decide|exact trivial|exact Nat.le_of_ble_eq_true rfl|exact ⟨_,rfl,rfl⟩|exact ⟨rfl,trivial⟩|exact ⟨rfl,rfl,trivial⟩) ?_
              conv => whnf
              refine ⟨_, hk1, rfl, rfl, ?_⟩
              repeat (conv => whnf); first|refine IndepAnd (by kernel_rfl) ?_|refine TreeAnd (by kernel_rfl) ?_|refine ⟨rfl,?_⟩|refine And.intro (by first|decide|exact trivial|exact Nat.le_of_ble_eq_true rfl|exact ⟨_,rfl,rfl⟩|exact ⟨rfl,trivial⟩|exact ⟨rfl,rfl,trivial⟩) ?_
              conv => whnf
              refine ⟨_, CallVC.pr (pub_ok true y) rfl rfl, ?_⟩
              repeat (conv => whnf); first|refine IndepAnd (by kernel_rfl) ?_|refine TreeAnd (by kernel_rfl) ?_|refine ⟨rfl,?_⟩|refine And.intro (by first|decide|exact trivial|exact Nat.le_of_ble_eq_true rfl|exact ⟨_,rfl,rfl⟩|exact ⟨rfl,trivial⟩|exact ⟨rfl,rfl,trivial⟩) ?_
              conv => whnf
              refine ⟨_, MCallVC.pr gid a2 ⟨LE.of rfl, LE.of (congrArg (fun l => SV.p (PV.lst l)) (tmvs2 x (pubT y))), trivial⟩ ⟨.inr (.inl rfl), .inr (.inl rfl), .inr (.inl rfl), .inr (.inl rfl), trivial⟩ rfl, ?_⟩
              repeat (conv => whnf); first|refine IndepAnd (by kernel_rfl) ?_|refine TreeAnd (by kernel_rfl) ?_|refine ⟨rfl,?_⟩|refine And.intro (by first|decide|exact trivial|exact Nat.le_of_ble_eq_true rfl|exact ⟨_,rfl,rfl⟩|exact ⟨rfl,trivial⟩|exact ⟨rfl,rfl,trivial⟩) ?_
              conv => whnf
              refine ⟨_, CallVC.pr (pub_ok true x) rfl rfl, ?_⟩
              repeat (conv => whnf); first|refine IndepAnd (by kernel_rfl) ?_|refine TreeAnd (by kernel_rfl) ?_|refine ⟨rfl,?_⟩|refine And.intro (by first|decide|exact trivial|exact Nat.le_of_ble_eq_true rfl|exact ⟨_,rfl,rfl⟩|exact ⟨rfl,trivial⟩|exact ⟨rfl,rfl,trivial⟩) ?_
              conv => whnf
              refine ⟨_, MCallVC.pr gid b2 ⟨LE.of rfl, LE.of (congrArg (fun l => SV.p (PV.lst l)) (tmvs2 y (pubT x))), trivial⟩ ⟨.inr (.inl rfl), .inr (.inl rfl), .inr (.inl rfl), .inr (.inl rfl), trivial⟩ rfl, ?_⟩
              repeat (conv => whnf); first|refine IndepAnd (by kernel_rfl) ?_|refine TreeAnd (by kernel_rfl) ?_|refine ⟨rfl,?_⟩|refine And.intro (by first|decide|exact trivial|exact Nat.le_of_ble_eq_true rfl|exact ⟨_,rfl,rfl⟩|exact ⟨rfl,trivial⟩|exact ⟨rfl,rfl,trivial⟩) ?_
              conv => whnf
              exact ⟨gid, ⟨rfl, LE.of rfl⟩, ⟨.inr (.inl rfl), .inr (.inl rfl), .inr (.inl rfl), .inr (.inl (congrArg (AO.mp 37 true) (mdM_putD (txtT t) _ Db))), trivial⟩, rfl, rfl⟩
          · rw [if_neg k1, if_neg k2, if_neg k9] at hmk
            obtain ⟨D1, d1, d2⟩ := alls_ok L S t.kids D hD hf.len ihk
            refine ⟨putD (txtT t) (t.kids.all (mkB S)) D1, hput _ _ hmk d1, ?_⟩
            rw [hmk]
            refine PM_of_vc (cx_ok true) (mixed true) { own := fun q => Nat.beq q 100061 || Nat.beq q 100068 || Nat.beq q 100041, ps := psT [(14, [9, 10])], kp := kpT [(14, [0, 3, 4, 5, 8], [3, 2000, 2001, 2002, 2003]), (15, [0, 3, 4, 5, 8, 9, 10], [3, 9, 10, 2000, 2001, 2002, 2003])] } Tryd.func53 (by kernel_rfl) rfl rfl (by kernel_rfl) rfl ?_
            repeat (conv => whnf); first|refine IndepAnd (by kernel_rfl) ?_|refine TreeAnd (by kernel_rfl) ?_|refine ⟨rfl,?_⟩|refine And.intro (by first|decide|exact trivial|exact Nat.le_of_ble_eq_true rfl|exact ⟨_,rfl,rfl⟩|exact ⟨rfl,trivial⟩|exact ⟨rfl,rfl,trivial⟩) ?_
            conv => whnf
            refine ⟨_, CallVC.pr hT rfl rfl, ?_⟩
            repeat (conv => whnf); first|refine IndepAnd (by kernel_rfl) ?_|refine TreeAnd (by kernel_rfl) ?_|refine ⟨rfl,?_⟩|refine And.intro (by first|decide|exact trivial|exact Nat.le_of_ble_eq_true rfl|exact ⟨_,rfl,rfl⟩|exact ⟨rfl,trivial⟩|exact ⟨rfl,rfl,trivial⟩) ?_
            conv => whnf
            refine @bool_rec _ _ _ ?_ ?_ <;> intro h4
            · exact absurd (of_decide_eq_true h4) h1
            repeat (conv => whnf); first|refine IndepAnd (by kernel_rfl) ?_|refine TreeAnd (by kernel_rfl) ?_|refine ⟨rfl,?_⟩|refine And.intro (by first|decide|exact trivial|exact Nat.le_of_ble_eq_true rfl|exact ⟨_,rfl,rfl⟩|exact ⟨rfl,trivial⟩|exact ⟨rfl,rfl,trivial⟩) ?_
            conv => whnf
            refine ⟨_, isM_get (txtT t) S, ?_⟩
            rw [if_neg h2]
            repeat (conv => whnf); first|refine IndepAnd (by kernel_rfl) ?_|refine TreeAnd (by kernel_rfl) ?_|refine ⟨rfl,?_⟩|refine And.intro (by first|decide|exact trivial|exact Nat.le_of_ble_eq_true rfl|exact ⟨_,rfl,rfl⟩|exact ⟨rfl,trivial⟩|exact ⟨rfl,rfl,trivial⟩) ?_
            conv => whnf
            refine ⟨_, mdM_get (txtT t) D, ?_⟩
            rw [h3]
            repeat (conv => whnf); first|refine IndepAnd (by kernel_rfl) ?_|refine TreeAnd (by kernel_rfl) ?_|refine ⟨rfl,?_⟩|refine And.intro (by first|decide|exact trivial|exact Nat.le_of_ble_eq_true rfl|exact ⟨_,rfl,rfl⟩|exact ⟨rfl,trivial⟩|exact ⟨rfl,rfl,trivial⟩) ?_
            conv => whnf
            refine @bool_rec _ _ _ ?_ ?_ <;> intro h5
            · exact absurd (of_decide_eq_true h5) k1
            repeat (conv => whnf); first|refine IndepAnd (by kernel_rfl) ?_|refine TreeAnd (by kernel_rfl) ?_|refine ⟨rfl,?_⟩|refine And.intro (by first|decide|exact trivial|exact Nat.le_of_ble_eq_true rfl|exact ⟨_,rfl,rfl⟩|exact ⟨rfl,trivial⟩|exact ⟨rfl,rfl,trivial⟩) ?_
            conv => whnf
            refine @bool_rec _ _ _ ?_ ?_ <;> intro h6
            · exact absurd (of_decide_eq_true h6) k2
            repeat (conv => whnf); first|refine IndepAnd (by kernel_rfl) ?_|refine TreeAnd (by kernel_rfl) ?_|refine ⟨rfl,?_⟩|refine And.intro (by first|decide|exact trivial|exact Nat.le_of_ble_eq_true rfl|exact ⟨_,rfl,rfl⟩|exact ⟨rfl,trivial⟩|exact ⟨rfl,rfl,trivial⟩) ?_
            conv => whnf
            refine @bool_rec _ _ _ ?_ ?_ <;> intro h7
            · exact absurd (of_decide_eq_true h7) k9
            repeat (conv => whnf); first|refine IndepAnd (by kernel_rfl) ?_|refine TreeAnd (by kernel_rfl) ?_|refine ⟨rfl,?_⟩|refine And.intro (by first|decide|exact trivial|exact Nat.le_of_ble_eq_true rfl|exact ⟨_,rfl,rfl⟩|exact ⟨rfl,trivial⟩|exact ⟨rfl,rfl,trivial⟩) ?_
            conv => whnf
            refine ⟨_, MCallVC.pr gid d2 ⟨LE.of rfl, LE.of rfl, trivial⟩ ⟨.inr (.inl rfl), .inr (.inl rfl), .inr (.inl rfl), .inr (.inl rfl), trivial⟩ rfl, ?_⟩
            repeat (conv => whnf); first|refine IndepAnd (by kernel_rfl) ?_|refine TreeAnd (by kernel_rfl) ?_|refine ⟨rfl,?_⟩|refine And.intro (by first|decide|exact trivial|exact Nat.le_of_ble_eq_true rfl|exact ⟨_,rfl,rfl⟩|exact ⟨rfl,trivial⟩|exact ⟨rfl,rfl,trivial⟩) ?_
            conv => whnf
            exact ⟨gid, ⟨rfl, LE.of rfl⟩, ⟨.inr (.inl rfl), .inr (.inl rfl), .inr (.inl rfl), .inr (.inl (congrArg (AO.mp 37 true) (mdM_putD (txtT t) _ D1))), trivial⟩, rfl, rfl⟩
end Go.Sl
/- mid -/
namespace Go.Sl
open Go Go.Vc Go.Proofs Go.RowKit

theorem Makes_ok (L : List Tm) (S : List Bs) (t : Tm) (hf : Fit t) (hw : wt t ≤ 1000000000) (D : List (Bs × Bool)) (hD : DOk S D) :
    ∃ D', DOk S D' ∧ PM (cx true) 29 (KP L S D) [.ptr 2000 0, tv t] (KP L S D') (.p (.bool (mkB S (canT t)))) := by
  obtain ⟨D', h1, h2⟩ := makes_ok L S _ (canT t) (Nat.le_refl _) (can_fit t hf) (by rw [can_wt]; exact hw) D hD
  refine ⟨D', h1, ?_⟩
  refine PM_of_vc (cx_ok true) (mixed true) { own := fun q => Nat.beq q 100008 } Tryd.func29 (by kernel_rfl) rfl rfl (by kernel_rfl) rfl ?_
  repeat (conv => whnf); first|refine IndepAnd (by kernel_rfl) ?_|refine TreeAnd (by kernel_rfl) ?_|refine ⟨rfl,?_⟩|refine And.intro (by first|decide|exact trivial|exact Nat.le_of_ble_eq_true rfl|exact ⟨_,rfl,rfl⟩|exact ⟨rfl,trivial⟩|exact ⟨rfl,rfl,trivial⟩) ?_
  conv => whnf
  refine ⟨_, CallVC.pr (canon_ok t hf hw) rfl rfl, ?_⟩
  repeat (conv => whnf); first|refine IndepAnd (by kernel_rfl) ?_|refine TreeAnd (by kernel_rfl) ?_|refine ⟨rfl,?_⟩|refine And.intro (by first|decide|exact trivial|exact Nat.le_of_ble_eq_true rfl|exact ⟨_,rfl,rfl⟩|exact ⟨rfl,trivial⟩|exact ⟨rfl,rfl,trivial⟩) ?_
  conv => whnf
  refine ⟨_, MCallVC.pr gid h2 ⟨LE.of rfl, LE.of rfl, trivial⟩ ⟨.inr (.inl rfl), .inr (.inl rfl), .inr (.inl rfl), .inr (.inl rfl), trivial⟩ rfl, ?_⟩
  repeat (conv => whnf); first|refine IndepAnd (by kernel_rfl) ?_|refine TreeAnd (by kernel_rfl) ?_|refine ⟨rfl,?_⟩|refine And.intro (by first|decide|exact trivial|exact Nat.le_of_ble_eq_true rfl|exact ⟨_,rfl,rfl⟩|exact ⟨rfl,trivial⟩|exact ⟨rfl,rfl,trivial⟩) ?_
  conv => whnf
  exact ⟨gid, ⟨rfl, LE.of rfl⟩, ⟨.inr (.inl rfl), .inr (.inl rfl), .inr (.inl rfl), .inr (.inl rfl), trivial⟩, rfl, rfl⟩
def ofT (l : List Tm) : Kn := l.foldl addT ⟨[], [], []⟩
theorem ofT_take {l : List Tm} {i : Nat} (h : i < l.length) : ofT (l.take (i + 1)) = addT (ofT (l.take i)) l[i] := by
  rw [List.take_succ_eq_append_getElem h]
  unfold ofT
  rw [List.foldl_append]
  rfl
theorem add_len (k : Kn) (t : Tm) : (addT k t).l.length ≤ k.l.length + 1 := by
  unfold addT
  split
  · omega
  · simp
theorem foldl_add_len (l : List Tm) (k : Kn) : (l.foldl addT k).l.length ≤ k.l.length + l.length := by
  induction l generalizing k with
  | nil => simp
  | cons t l ih =>
    have := ih (addT k t)
    have := add_len k t
    simp only [List.foldl_cons, List.length_cons]
    omega
abbrev gOf : Nat → Nat := gT [(2000, 9), (1001, 1500), (2002, 6), (2003, 7)]
theorem of_ok (l : List Tm) (hf : ∀ t ∈ l, Fit t) (hw : ∀ t ∈ l, wt t ≤ 1000000000) (hl : l.length ≤ 1000000000) :
    PM (cx true) 28 [] [lv l] (ofT l).obs (.ptr 2000 0) := by
  refine PM_of_vc (cx_ok true) (mixed true) { own := fun q => Nat.beq q 100018, nl := fun r => cond (Nat.beq r 2) [(9, 0, 1500, 24, 3)] [] } Tryd.func28 (by kernel_rfl) rfl rfl (by kernel_rfl) rfl ?_
  repeat (conv => whnf); first|refine IndepAnd (by kernel_rfl) ?_|refine TreeAnd (by kernel_rfl) ?_|refine ⟨rfl,?_⟩|refine And.intro (by first|decide|exact trivial|exact Nat.le_of_ble_eq_true rfl|exact ⟨_,rfl,rfl⟩|exact ⟨rfl,trivial⟩|exact ⟨rfl,rfl,trivial⟩) ?_
  conv => whnf
  refine ⟨{ i : Nat // i ≤ l.length }, fun i => Vc.S.of [(3, .ptr 9 0), (10, lv l), (11, iv ((tmvs l).length : Int)), (12, iv (i.1 : Int))] [(9, .var true 39 (.mix [.slc 1500, .slc 6, .slc 7])), (1500, .row 24 3 (tmvs (ofT (l.take i.1)).l)), (6, .mp 37 true (isM (ofT (l.take i.1)).s)), (7, .mp 37 true (mdM (ofT (l.take i.1)).d))], fun i => l.length - i.1, ⟨0, Nat.zero_le _⟩, ?_, ?_⟩
  · refine Ge.of rfl ?_ ?_
    · repeat (conv => whnf); refine ⟨LE.of rfl, ?_⟩
      trivial
    · repeat (conv => whnf); refine ⟨OLE.of rfl, ?_⟩
      trivial
  rintro ⟨i, hi⟩
  repeat (conv => whnf); first|refine IndepAnd (by kernel_rfl) ?_|refine TreeAnd (by kernel_rfl) ?_|refine ⟨rfl,?_⟩|refine And.intro (by first|decide|exact trivial|exact Nat.le_of_ble_eq_true rfl|exact ⟨_,rfl,rfl⟩|exact ⟨rfl,trivial⟩|exact ⟨rfl,rfl,trivial⟩) ?_
  conv => whnf
  refine @bool_rec _ _ _ ?_ ?_ <;> intro h1
  · have hlt : i < l.length := by have := of_decide_eq_true h1; rw [tmvs_length] at this; exact Int.ofNat_lt.1 this
    repeat (conv => whnf); first|refine IndepAnd (by kernel_rfl) ?_|refine TreeAnd (by kernel_rfl) ?_|refine ⟨rfl,?_⟩|refine And.intro (by first|decide|exact trivial|exact Nat.le_of_ble_eq_true rfl|exact ⟨_,rfl,rfl⟩|exact ⟨rfl,trivial⟩|exact ⟨rfl,rfl,trivial⟩) ?_
    conv => whnf
    refine ⟨Int.natCast_nonneg _, TV l[i], tmvs_getN hlt, rfl, rfl, ?_⟩
    repeat (conv => whnf); first|refine IndepAnd (by kernel_rfl) ?_|refine TreeAnd (by kernel_rfl) ?_|refine ⟨rfl,?_⟩|refine And.intro (by first|decide|exact trivial|exact Nat.le_of_ble_eq_true rfl|exact ⟨_,rfl,rfl⟩|exact ⟨rfl,trivial⟩|exact ⟨rfl,rfl,trivial⟩) ?_
    conv => whnf
    refine ⟨_, MCallVC.pr gOf (add_ok (ofT (l.take i)) l[i] (hf _ (List.getElem_mem hlt)) (hw _ (List.getElem_mem hlt)) (by have := foldl_add_len (l.take i) ⟨[], [], []⟩; simp at this; show (List.foldl addT ⟨[], [], []⟩ (l.take i)).l.length ≤ _; omega)) ⟨LE.of rfl, LE.of rfl, trivial⟩ ⟨.inr (.inl rfl), .inr (.inl rfl), .inr (.inl rfl), .inr (.inl rfl), trivial⟩ rfl, ?_⟩
    repeat (conv => whnf); first|refine IndepAnd (by kernel_rfl) ?_|refine TreeAnd (by kernel_rfl) ?_|refine ⟨rfl,?_⟩|refine And.intro (by first|decide|exact trivial|exact Nat.le_of_ble_eq_true rfl|exact ⟨_,rfl,rfl⟩|exact ⟨rfl,trivial⟩|exact ⟨rfl,rfl,trivial⟩) ?_
    conv => whnf
    refine ⟨_, wrapN (n := i + 1) rfl (by omega), ?_⟩
    repeat (conv => whnf); first|refine IndepAnd (by kernel_rfl) ?_|refine TreeAnd (by kernel_rfl) ?_|refine ⟨rfl,?_⟩|refine And.intro (by first|decide|exact trivial|exact Nat.le_of_ble_eq_true rfl|exact ⟨_,rfl,rfl⟩|exact ⟨rfl,trivial⟩|exact ⟨rfl,rfl,trivial⟩) ?_
    conv => whnf
    have e := ofT_take hlt
    refine ⟨⟨i + 1, hlt⟩, ?_, by show l.length - (i + 1) < l.length - i; omega⟩
    refine Ge.of rfl ?_ ?_
    · repeat (conv => whnf); refine ⟨LE.of rfl, ?_⟩
      trivial
    · repeat (conv => whnf); first | refine ⟨OLE.of rfl, ?_⟩ | refine ⟨OLE.of (congrArg (fun k : Kn => AO.row 24 3 (tmvs k.l)) e.symm), ?_⟩ | refine ⟨OLE.of (congrArg (fun k : Kn => AO.mp 37 true (isM k.s)) e.symm), ?_⟩ | refine ⟨OLE.of (congrArg (fun k : Kn => AO.mp 37 true (mdM k.d)) e.symm), ?_⟩
      trivial
  · have hge : i = l.length := by have h1 := of_decide_eq_false h1; rw [tmvs_length] at h1; have h1 : ¬ (i : Int) < (l.length : Int) := h1; omega
    have e : ofT (l.take i) = ofT l := by rw [hge, List.take_length]
    repeat (conv => whnf); first|refine IndepAnd (by kernel_rfl) ?_|refine TreeAnd (by kernel_rfl) ?_|refine ⟨rfl,?_⟩|refine And.intro (by first|decide|exact trivial|exact Nat.le_of_ble_eq_true rfl|exact ⟨_,rfl,rfl⟩|exact ⟨rfl,trivial⟩|exact ⟨rfl,rfl,trivial⟩) ?_
    conv => whnf
    exact ⟨gOf, ⟨rfl, LE.of rfl⟩, ⟨.inr (.inl rfl), .inr (.inl (congrArg (fun k : Kn => AO.row 24 3 (tmvs k.l)) e)), .inr (.inl (congrArg (fun k : Kn => AO.mp 37 true (isM k.s)) e)), .inr (.inl (congrArg (fun k : Kn => AO.mp 37 true (mdM k.d)) e)), trivial⟩, rfl, rfl⟩
end Go.Sl
/- mid -/
namespace Go.Sl
open Go Go.Vc Go.Proofs Go.RowKit

def fnP (f : Nat) : PV := .exact (.func (.func f) #[] #[])
def wayP (f g : Nat) : PV := .agg [fnP f, fnP g]
/-- The ways of all kinds. -/
def waysL : List (MK × PV) := [(.n 3, wayP 69 72), (.n 4, wayP 70 71), (.n 10, wayP 71 70)]
theorem none_ok (t : Tm) : K true 69 [tv t] (.pv (.lst [])) := by
  refine PC_of_vc (cx_ok true) (mixed true) {} Tryd.func69 (by kernel_rfl) rfl rfl (by kernel_rfl) ?_
  repeat (conv => whnf); first|refine IndepAnd (by kernel_rfl) ?_|refine TreeAnd (by kernel_rfl) ?_|refine ⟨rfl,?_⟩|refine And.intro (by first|decide|exact trivial|exact Nat.le_of_ble_eq_true rfl|exact ⟨_,rfl,rfl⟩|exact ⟨rfl,trivial⟩|exact ⟨rfl,rfl,trivial⟩) ?_
  conv => whnf
  exact LEP.refl _
theorem every_ok (t : Tm) : K true 72 [tv t] (.pv (.lst (tmvs t.kids))) := by
  refine PC_of_vc (cx_ok true) (mixed true) {} Tryd.func72 (by kernel_rfl) rfl rfl (by kernel_rfl) ?_
  repeat (conv => whnf); first|refine IndepAnd (by kernel_rfl) ?_|refine TreeAnd (by kernel_rfl) ?_|refine ⟨rfl,?_⟩|refine And.intro (by first|decide|exact trivial|exact Nat.le_of_ble_eq_true rfl|exact ⟨_,rfl,rfl⟩|exact ⟨rfl,trivial⟩|exact ⟨rfl,rfl,trivial⟩) ?_
  conv => whnf
  exact LEP.refl _
theorem first_ok (t x y : Tm) (h : t.kids = [x, y]) : K true 70 [tv t] (.pv (.lst (tmvs [x]))) := by
  have hk : tmvs t.kids = [TV x, TV y] := by rw [h]; exact (tmvs2 x y).symm
  refine PC_of_vc (cx_ok true) (mixed true) {} Tryd.func70 (by kernel_rfl) rfl rfl (by kernel_rfl) ?_
  repeat (conv => whnf); first|refine IndepAnd (by kernel_rfl) ?_|refine TreeAnd (by kernel_rfl) ?_|refine ⟨rfl,?_⟩|refine And.intro (by first|decide|exact trivial|exact Nat.le_of_ble_eq_true rfl|exact ⟨_,rfl,rfl⟩|exact ⟨rfl,trivial⟩|exact ⟨rfl,rfl,trivial⟩) ?_
  conv => whnf
  rw [hk]
  repeat (conv => whnf); first|refine IndepAnd (by kernel_rfl) ?_|refine TreeAnd (by kernel_rfl) ?_|refine ⟨rfl,?_⟩|refine And.intro (by first|decide|exact trivial|exact Nat.le_of_ble_eq_true rfl|exact ⟨_,rfl,rfl⟩|exact ⟨rfl,trivial⟩|exact ⟨rfl,rfl,trivial⟩) ?_
  conv => whnf
  refine ⟨⟨tiTerm, rfl, rfl, rfl, trivial⟩, ?_⟩
  repeat (conv => whnf); first|refine IndepAnd (by kernel_rfl) ?_|refine TreeAnd (by kernel_rfl) ?_|refine ⟨rfl,?_⟩|refine And.intro (by first|decide|exact trivial|exact Nat.le_of_ble_eq_true rfl|exact ⟨_,rfl,rfl⟩|exact ⟨rfl,trivial⟩|exact ⟨rfl,rfl,trivial⟩) ?_
  conv => whnf
  exact LEP.of (congrArg PV.lst (tmvs1 x))
theorem second_ok (t x y : Tm) (h : t.kids = [x, y]) : K true 71 [tv t] (.pv (.lst (tmvs [y]))) := by
  have hk : tmvs t.kids = [TV x, TV y] := by rw [h]; exact (tmvs2 x y).symm
  refine PC_of_vc (cx_ok true) (mixed true) {} Tryd.func71 (by kernel_rfl) rfl rfl (by kernel_rfl) ?_
  repeat (conv => whnf); first|refine IndepAnd (by kernel_rfl) ?_|refine TreeAnd (by kernel_rfl) ?_|refine ⟨rfl,?_⟩|refine And.intro (by first|decide|exact trivial|exact Nat.le_of_ble_eq_true rfl|exact ⟨_,rfl,rfl⟩|exact ⟨rfl,trivial⟩|exact ⟨rfl,rfl,trivial⟩) ?_
  conv => whnf
  rw [hk]
  repeat (conv => whnf); first|refine IndepAnd (by kernel_rfl) ?_|refine TreeAnd (by kernel_rfl) ?_|refine ⟨rfl,?_⟩|refine And.intro (by first|decide|exact trivial|exact Nat.le_of_ble_eq_true rfl|exact ⟨_,rfl,rfl⟩|exact ⟨rfl,trivial⟩|exact ⟨rfl,rfl,trivial⟩) ?_
  conv => whnf
  refine ⟨⟨tiTerm, rfl, rfl, rfl, trivial⟩, ?_⟩
  repeat (conv => whnf); first|refine IndepAnd (by kernel_rfl) ?_|refine TreeAnd (by kernel_rfl) ?_|refine ⟨rfl,?_⟩|refine And.intro (by first|decide|exact trivial|exact Nat.le_of_ble_eq_true rfl|exact ⟨_,rfl,rfl⟩|exact ⟨rfl,trivial⟩|exact ⟨rfl,rfl,trivial⟩) ?_
  conv => whnf
  exact LEP.of (congrArg PV.lst (tmvs1 y))
theorem ways_ok : PM (cx true) 50 [] [] [(2010, .mp 53 false waysL)] (.slc 2010) := by
  refine PM_of_vc (cx_ok true) (mixed true) {} Tryd.func50 (by kernel_rfl) rfl rfl (by kernel_rfl) rfl ?_
  repeat (conv => whnf); first|refine IndepAnd (by kernel_rfl) ?_|refine TreeAnd (by kernel_rfl) ?_|refine ⟨rfl,?_⟩|refine And.intro (by first|decide|exact trivial|exact Nat.le_of_ble_eq_true rfl|exact ⟨_,rfl,rfl⟩|exact ⟨rfl,trivial⟩|exact ⟨rfl,rfl,trivial⟩) ?_
  conv => whnf
  exact ⟨gT [(2010, 5)], ⟨rfl, LE.of rfl⟩, ⟨.inr (.inl rfl), trivial⟩, rfl, rfl⟩
end Go.Sl
