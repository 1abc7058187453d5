/- Part 8 of the proof: Hh Hi Hj Hk Ma Fe Ff. -/
import Derived.Test.YteicafhbhdliaaaGreatDoorOag
set_option linter.unusedSimpArgs false
set_option linter.unusedVariables false
namespace Go.Sl
open Go Go.Vc Go.Proofs Go.RowKit
def iC (t : Tm) : Option (List Tm × List Tm) :=
 if t.kind = 3 then some ([], t.kids) else if t.kind = 4 then (match t.kids with | [x, y] => some ([x], [y]) | _ => none) else if t.kind = 10 then (match t.kids with | [x, y] => some ([y], [x]) | _ => none) else none
def bL (S : List Bs) (t : Tm) : List Tm :=
 match iC t with
 | some (n, g) => if n.all (mkB S) = true then g else []
 | none => []
theorem tH {t : Tm} {n g : List Tm} (h : iC t = some (n, g)) : (∀ u ∈ n, u ∈ t.kids) /\ ∀ u ∈ g, u ∈ t.kids := by
 unfold iC at h;split at h
 ·cases h; exact ⟨fun u h => (by cases h), fun u h => h⟩
 ·split at h
  ·split at h
   ·rename_i x y e; cases h; rw [e]; simp
   ·cases h
  ·split at h
   ·split at h
    ·rename_i x y e; cases h; rw [e]; simp
    ·cases h
   ·cases h
theorem qt {S : List Bs} {t u : Tm} (h : u ∈ bL S t) : u ∈ t.kids := by
 unfold bL at h;split at h
 ·rename_i n g e;split at h
  ·exact (tH e).2 u h
  ·cases h
 ·cases h
theorem tI {t : Tm} (h : aG t ≠ []) (hk : t.kind = 4 \/ t.kind = 10) : ∃ x y, t.kids = [x, y] := by
 have hs := cU t 60 (rI h);obtain ⟨k, n, l⟩ := t;simp only [Tm.kind] at hk;simp only [Tm.shp, Bool.and_eq_true, Bool.or_eq_true, decide_eq_true_eq] at hs;have hl : l.length = 2 := by
  rcases hk with rfl | rfl
  ·have := hs.1.2;simp [Tm.arity] at this;omega
  ·have := hs.1.2;simp [Tm.arity] at this;omega
 match l, hl with
 | [x, y], _ => exact ⟨x, y, rfl⟩
def bS (S : List Bs) (l : List Tm) : List Tm := l.flatMap (bL S)
theorem fT (S : List Bs) {l : List Tm} {i : Nat} (h : i < l.length) : bS S (l.take (i + 1)) = bS S (l.take i) ++ bL S l[i] := by
 rw [List.take_succ_eq_append_getElem h, bS, List.flatMap_append];simp [bS]
theorem Ed (l : List Tm) : l.length <= wts l := by
 induction l with
 | nil => simp
 | cons u l ih => have := bR u; simp only [List.length_cons, wts]; omega
open Classical in
noncomputable def pM (L : List Tm) (S : List Bs) (l : List Tm) (D : List (Bs × Bool)) : List (Bs × Bool) :=
 if h : ∃ D', DOk S D' /\ PM (cx true) 109 (KP L S D) [.ptr 2000 0, lv l] (KP L S D') (.p (.bool (l.all (mkB S)))) then Classical.choose h else D
theorem nD (L : List Tm) (S : List Bs) (l : List Tm) (D : List (Bs × Bool)) (hD : DOk S D) (hl : l.length <= 9223372036854775807) (hf : ∀ u ∈ l, Fit u) (hw : ∀ u ∈ l, wt u <= 1000000000) :
  DOk S (pM L S l D) /\ PM (cx true) 109 (KP L S D) [.ptr 2000 0, lv l] (KP L S (pM L S l D)) (.p (.bool (l.all (mkB S)))) := by
 have h := nB L S l D hD hl fun u hu D hD => oG L S _ u (Nat.le_refl _) (hf u hu) (hw u hu) D hD
 rw [pM, dif_pos h];exact Classical.choose_spec h
noncomputable def dIn (L : List Tm) (S : List Bs) : List Tm -> List (Bs × Bool) -> List (Bs × Bool)
 | [], D => D
 | t :: ts, D => dIn L S ts (match iC t with | some (n, _) => pM L S n D | none => D)
theorem gb (L : List Tm) (S : List Bs) : ∀ {l : List Tm} {i : Nat} (D : List (Bs × Bool)) (h : i < l.length), dIn L S (l.take (i + 1)) D = (match iC l[i] with | some (n, _) => pM L S n (dIn L S (l.take i) D) | none => dIn L S (l.take i) D)
 | [], i, D, h => by simp at h
 | t :: l, 0, D, h => by simp [dIn]
 | t :: l, i + 1, D, h => by
  simp only [List.take_succ_cons, dIn, List.getElem_cons_succ];exact gb L S _ (by simpa using h)
theorem rL (L : List Tm) (S : List Bs) : ∀ (l : List Tm) (D : List (Bs × Bool)), DOk S D -> (∀ t ∈ l, Fit t) -> (∀ t ∈ l, wt t <= 1000000000) -> DOk S (dIn L S l D)
 | [], D, hD, _, _ => hD
 | t :: l, D, hD, hf, hw => by
  rw [dIn];refine rL L S l _ ?_ (fun u hu => hf u (List.mem_cons_of_mem _ hu)) (fun u hu => hw u (List.mem_cons_of_mem _ hu));have ft := hf t (List.mem_cons_self ..);have ht := hw t (List.mem_cons_self ..);split
  ·rename_i n g e;have hs := (tH e).1;have hn : n.length <= 9223372036854775807 := by
    unfold iC at e;split at e
    ·cases e; simp
    ·split at e
     ·split at e
      ·cases e; simp
      ·cases e
     ·split at e
      ·split at e
       ·cases e; simp
       ·cases e
      ·cases e
   exact (nD L S n D hD hn (fun u hu => ft.kid (hs u hu)) (fun u hu => by have := fJ (hs u hu); have := bR t; omega)).1
  ·exact hD
noncomputable def ke (k : Kn) : Kn := (bS k.s k.l).foldl cq ⟨k.l, k.s, dIn k.l k.s k.l k.d⟩
theorem WK.adds {U : List Tm} : ∀ (l : List Tm) {k : Kn}, WK U k -> (∀ t ∈ l, Fit t) -> (∀ t ∈ l, Sl.wt t <= 1000000000) -> (∀ t ∈ l, aL t ∈ U) -> WK U (l.foldl cq k)
 | [], k, h, _, _, _ => h
 | t :: l, k, h, hf, hw, hu => WK.adds l (h.add (hf t (List.mem_cons_self ..)) (hw t (List.mem_cons_self ..)) (hu t (List.mem_cons_self ..))) (fun u h => hf u (List.mem_cons_of_mem _ h)) (fun u h => hw u (List.mem_cons_of_mem _ h)) (fun u h => hu u (List.mem_cons_of_mem _ h))
theorem WK.step {U : List Tm} (hU : ∀ t ∈ U, ∀ u ∈ t.kids, u ∈ U) {k : Kn} (h : WK U k) : WK U (ke k) := by
 have hm : ∀ u ∈ bS k.s k.l, ∃ t ∈ k.l, u ∈ t.kids := fun u hu => by
  obtain ⟨t, ht, hu⟩ := List.mem_flatMap.1 hu;exact ⟨t, ht, qt hu⟩
 refine WK.adds _ { h with d := rL k.l k.s k.l k.d h.d h.fit h.wt } (fun u hu => ?_) (fun u hu => ?_) (fun u hu => ?_)
 ·obtain ⟨t, ht, hu⟩ := hm u hu;exact (h.fit t ht).kid hu
 ·obtain ⟨t, ht, hu⟩ := hm u hu;have := h.wt t ht;have := fJ hu;have := bR t;omega
 ·obtain ⟨t, ht, hu⟩ := hm u hu;rw [rJ (h.can t ht) hu];exact hU t (h.sub t ht) u hu
end Go.Sl
namespace Go.Sl
open Go Go.Vc Go.Proofs Go.RowKit
noncomputable def itK (k : Kn) : Nat -> Kn
 | 0 => k
 | j + 1 => ke (itK k j)
def tJ (k : Kn) (f : Nat -> Kn) : Nat -> Int
 | 0 => -1
 | j + 1 => ((af (f j).l).length : Int)
abbrev gAn : Nat -> Nat := gT [(2000, 1900), (1001, 1901), (2002, 1902), (2003, 1903), (2001, 1901)]
abbrev AN (k : Kn) : List (Nat × AO) := [(1900, .var true 176 (.mix [.slc 1901, .slc 1902, .slc 1903])), (1901, .row 26 3 (af k.l)), (1902, .mp 174 true (isM k.s)), (1903, .mp 174 true (mdM k.d)), (1910, .mp 172 false oH)]
theorem rM (U : List Tm) (hU : ∀ t ∈ U, ∀ u ∈ t.kids, u ∈ U) (l : List Tm) (hf : ∀ t ∈ l, Fit t) (hw : ∀ t ∈ l, wt t <= 1000000000) (hl : l.length <= 1000000000) (h0 : WK U (ofT l)) (hUl : U.length <= 1000000000) (hml' : ∀ k, WK U k -> ∀ i, (bS k.s (k.l.take i)).length <= 2000000000000)
  (e : Kn) (he : ∀ j, (∀ i, i + 1 < j -> (itK (ofT l) i).l.length < (itK (ofT l) (i + 1)).l.length) -> 0 < j -> (itK (ofT l) j).l.length <= (itK (ofT l) (j - 1)).l.length -> itK (ofT l) j = e) :
  PM (cx true) 54 [] [lv l] e.obs (.ptr 2000 0) := by
 refine aW (bo true) (bp true) { own := oO [100014, 100015, 100051, 100068, 6, 58] } Tryz.func54 (by kernel_rfl) rfl rfl (by kernel_rfl) rfl (goS ?_);refine ⟨_, ac.pr gAn (Hm l hf hw hl) ⟨LE.of rfl, trivial⟩ trivial rfl, goS ?_⟩;refine ⟨_, ac.pr (gT [(2010, 1910)]) Eb trivial trivial rfl, goS ?_⟩;refine ⟨{ j : Nat // (∀ i, i + 1 < j -> (itK (ofT l) i).l.length < (itK (ofT l) (i + 1)).l.length) /\ WK U (itK (ofT l) j) }, fun j => Vc.S.of [(3, .ptr 1900 0), (4, .slc 1910), (5, iv (tJ (ofT l) (itK (ofT l)) j.1))] (AN (itK (ofT l) j.1)), fun j => U.length + 1 - (tJ (ofT l) (itK (ofT l)) j.1 + 1).toNat, ⟨0, fun i h => absurd h (by omega), h0⟩, ?_, ?_⟩
 ·exact Ge.go
 rintro ⟨j, hj, hk⟩
 refine goS ?_;refine aa ?_ ?_ <;> intro h1
 ·refine goS ?_;obtain ⟨k, ek⟩ : ∃ k, k = itK (ofT l) j := ⟨_, rfl⟩
  have hk : WK U k := by rw [ek]; exact hk
  have hkl := hk.len;have hdi : ∀ i, DOk k.s (dIn k.l k.s (k.l.take i) k.d) := fun i => rL k.l k.s _ k.d hk.d (fun t ht => hk.fit t (List.mem_of_mem_take ht)) (fun t ht => hk.wt t (List.mem_of_mem_take ht))
  refine ⟨{ i : Nat // i <= k.l.length }, fun i => Vc.S.of [(3, .ptr 1900 0), (4, .slc 1910), (5, iv ((af k.l).length : Int)), (6, .slc 6), (31, .slc 1901), (32, iv ((af k.l).length : Int)), (33, iv (i.1 : Int))] ((6, .row 26 3 (af (bS k.s (k.l.take i.1)))) :: AN ⟨k.l, k.s, dIn k.l k.s (k.l.take i.1) k.d⟩), fun i => k.l.length - i.1, ⟨0, Nat.zero_le _⟩, ?_, ?_⟩
  ·subst ek;exact Ge.go
  rintro ⟨i, hi⟩
  refine goS ?_;refine aa ?_ ?_ <;> intro h2
  ·have hlt : i < k.l.length := by have := of_decide_eq_true h2; rw [ab] at this; exact Int.ofNat_lt.1 this
   have hm : k.l[i] ∈ k.l := List.getElem_mem hlt;have hml : (bS k.s (k.l.take i)).length <= 2000000000000 := hml' k hk i;have hby : ∀ g : List Tm, g.length <= 1000000000 -> ((af (bS k.s (k.l.take i))).length + (af g).length) * 48 <= 140737488355328 := fun g hg => by
    rw [ab, ab];omega
   refine goS ?_;refine ⟨Int.natCast_nonneg _, by show i < (af k.l).length; rw [ab]; exact hlt, goS ?_⟩;refine ⟨TV k.l[i], dm hlt, rfl, rfl, rfl, goS ?_⟩
   by_cases k3 : k.l[i].kind = 3
   ·refine ⟨some (yw 154 157), by show iW (.n k.l[i].kind) oH = _; rw [k3]; rfl, goS ?_⟩;refine cC (Ea k.l[i]) (goS ?_);refine ⟨_, ac.pr gAn (nD k.l k.s [] (dIn k.l k.s (k.l.take i) k.d) (hdi i) (by simp) (by simp) (by simp)).2 ⟨LE.of rfl, LE.of rfl, trivial⟩ ⟨.inr (.inl rfl), .inr (.inl rfl), .inr (.inl rfl), .inr (.inl rfl), trivial⟩ rfl, goS ?_⟩;refine cC (A5 k.l[i]) (goS ?_);refine ⟨gD _, goS ?_⟩;refine ⟨hby _ (Nat.le_trans (Ed _) (by have := hk.wt _ hm; have := bR k.l[i]; omega)), goS ?_⟩;have ew : iC k.l[i] = some ([], k.l[i].kids) := by unfold iC; rw [if_pos k3]
    have eg : bL k.s k.l[i] = k.l[i].kids := by unfold bL; rw [ew]; rfl
    refine ⟨_, aq (n := i + 1) rfl (by omega), goS ?_⟩;refine ⟨⟨i + 1, hlt⟩, ?_, by show k.l.length - (i + 1) < k.l.length - i; omega⟩;refine Ge.of rfl ?_ ?_
    ·repeat (conv => whnf); refine ⟨LE.of rfl, ?_⟩
     trivial
    ·repeat (conv => whnf); first | refine ⟨OLE.of rfl, ?_⟩ | refine ⟨OLE.of (congrArg (AO.row 26 3) (by show af (bS k.s (k.l.take i)) ++ af k.l[i].kids = af (bS k.s (k.l.take (i + 1))); rw [fT _ hlt, eg, aO])), ?_⟩ | refine ⟨OLE.of (congrArg (fun d => AO.mp 174 true (mdM d)) (by show pM k.l k.s [] (dIn k.l k.s (k.l.take i) k.d) = dIn k.l k.s (k.l.take (i + 1)) k.d; rw [gb _ _ _ hlt, ew])), ?_⟩
     trivial
   ·by_cases k4 : k.l[i].kind = 4
    ·skip
     obtain ⟨x, y, hxy⟩ := tI (hk.ne _ hm) (by first | exact .inl k4 | exact .inr k10);have fx : Fit x := (hk.fit _ hm).kid (by rw [hxy]; simp);have fy : Fit y := (hk.fit _ hm).kid (by rw [hxy]; simp);have hwt : wt x + wt y + 1 <= wt k.l[i] := by rw [bR k.l[i], hxy]; simp only [wts]; omega
     have hwk := hk.wt _ hm;have ew : iC k.l[i] = some ([x], [y]) := by unfold iC; rw [if_neg k3, if_pos k4, hxy]
     refine ⟨some (yw 155 156), by show iW (.n k.l[i].kind) oH = _; rw [k4]; rfl, goS ?_⟩;refine cC (tE k.l[i] x y hxy) (goS ?_);refine ⟨_, ac.pr gAn (nD k.l k.s [x] (dIn k.l k.s (k.l.take i) k.d) (hdi i) (by simp) (by simp [fx]) (by simp; omega)).2 ⟨LE.of rfl, LE.of rfl, trivial⟩ ⟨.inr (.inl rfl), .inr (.inl rfl), .inr (.inl rfl), .inr (.inl rfl), trivial⟩ rfl, goS ?_⟩;refine aa ?_ ?_ <;> intro h5
     ·have h5 : [x].all (mkB k.s) = true := h5;have eg : bL k.s k.l[i] = [y] := by unfold bL; rw [ew]; exact if_pos h5
      refine goS ?_;refine cC (qp k.l[i] x y hxy) (goS ?_);refine ⟨gD _, goS ?_⟩;refine ⟨hby _ (by simp), goS ?_⟩;refine ⟨_, aq (n := i + 1) rfl (by omega), goS ?_⟩;refine ⟨⟨i + 1, hlt⟩, ?_, by show k.l.length - (i + 1) < k.l.length - i; omega⟩;refine Ge.of rfl ?_ ?_
      ·repeat (conv => whnf); refine ⟨LE.of rfl, ?_⟩
       trivial
      ·repeat (conv => whnf); first | refine ⟨OLE.of rfl, ?_⟩ | refine ⟨OLE.of (congrArg (AO.row 26 3) (by show af (bS k.s (k.l.take i)) ++ af [y] = af (bS k.s (k.l.take (i + 1))); rw [fT _ hlt, eg, aO]; try simp [af])), ?_⟩ | refine ⟨OLE.of (congrArg (fun d => AO.mp 174 true (mdM d)) (by show pM k.l k.s [x] (dIn k.l k.s (k.l.take i) k.d) = dIn k.l k.s (k.l.take (i + 1)) k.d; rw [gb _ _ _ hlt, ew])), ?_⟩
       trivial
     ·have h5 : [x].all (mkB k.s) = false := h5;have eg : bL k.s k.l[i] = [] := by unfold bL; rw [ew]; exact if_neg (by rw [h5]; decide)
      refine goS ?_;refine ⟨_, aq (n := i + 1) rfl (by omega), goS ?_⟩;refine ⟨⟨i + 1, hlt⟩, ?_, by show k.l.length - (i + 1) < k.l.length - i; omega⟩;refine Ge.of rfl ?_ ?_
      ·repeat (conv => whnf); refine ⟨LE.of rfl, ?_⟩
       trivial
      ·repeat (conv => whnf); first | refine ⟨OLE.of rfl, ?_⟩ | refine ⟨OLE.of (congrArg (AO.row 26 3) (by show af (bS k.s (k.l.take i)) = af (bS k.s (k.l.take (i + 1))); rw [fT _ hlt, eg, aO]; try simp [af])), ?_⟩ | refine ⟨OLE.of (congrArg (fun d => AO.mp 174 true (mdM d)) (by show pM k.l k.s [x] (dIn k.l k.s (k.l.take i) k.d) = dIn k.l k.s (k.l.take (i + 1)) k.d; rw [gb _ _ _ hlt, ew])), ?_⟩
       trivial
    ·by_cases k10 : k.l[i].kind = 10
     ·skip
      obtain ⟨x, y, hxy⟩ := tI (hk.ne _ hm) (by first | exact .inl k4 | exact .inr k10);have fx : Fit x := (hk.fit _ hm).kid (by rw [hxy]; simp);have fy : Fit y := (hk.fit _ hm).kid (by rw [hxy]; simp);have hwt : wt x + wt y + 1 <= wt k.l[i] := by rw [bR k.l[i], hxy]; simp only [wts]; omega
      have hwk := hk.wt _ hm;have ew : iC k.l[i] = some ([y], [x]) := by unfold iC; rw [if_neg k3, if_neg k4, if_pos k10, hxy]
      refine ⟨some (yw 156 155), by show iW (.n k.l[i].kind) oH = _; rw [k10]; rfl, goS ?_⟩;refine cC (qp k.l[i] x y hxy) (goS ?_);refine ⟨_, ac.pr gAn (nD k.l k.s [y] (dIn k.l k.s (k.l.take i) k.d) (hdi i) (by simp) (by simp [fy]) (by simp; omega)).2 ⟨LE.of rfl, LE.of rfl, trivial⟩ ⟨.inr (.inl rfl), .inr (.inl rfl), .inr (.inl rfl), .inr (.inl rfl), trivial⟩ rfl, goS ?_⟩;refine aa ?_ ?_ <;> intro h5
      ·have h5 : [y].all (mkB k.s) = true := h5;have eg : bL k.s k.l[i] = [x] := by unfold bL; rw [ew]; exact if_pos h5
       refine goS ?_;refine cC (tE k.l[i] x y hxy) (goS ?_);refine ⟨gD _, goS ?_⟩;refine ⟨hby _ (by simp), goS ?_⟩;refine ⟨_, aq (n := i + 1) rfl (by omega), goS ?_⟩;refine ⟨⟨i + 1, hlt⟩, ?_, by show k.l.length - (i + 1) < k.l.length - i; omega⟩;refine Ge.of rfl ?_ ?_
       ·repeat (conv => whnf); refine ⟨LE.of rfl, ?_⟩
        trivial
       ·repeat (conv => whnf); first | refine ⟨OLE.of rfl, ?_⟩ | refine ⟨OLE.of (congrArg (AO.row 26 3) (by show af (bS k.s (k.l.take i)) ++ af [x] = af (bS k.s (k.l.take (i + 1))); rw [fT _ hlt, eg, aO]; try simp [af])), ?_⟩ | refine ⟨OLE.of (congrArg (fun d => AO.mp 174 true (mdM d)) (by show pM k.l k.s [y] (dIn k.l k.s (k.l.take i) k.d) = dIn k.l k.s (k.l.take (i + 1)) k.d; rw [gb _ _ _ hlt, ew])), ?_⟩
        trivial
      ·have h5 : [y].all (mkB k.s) = false := h5;have eg : bL k.s k.l[i] = [] := by unfold bL; rw [ew]; exact if_neg (by rw [h5]; decide)
       refine goS ?_;refine ⟨_, aq (n := i + 1) rfl (by omega), goS ?_⟩;refine ⟨⟨i + 1, hlt⟩, ?_, by show k.l.length - (i + 1) < k.l.length - i; omega⟩;refine Ge.of rfl ?_ ?_
       ·repeat (conv => whnf); refine ⟨LE.of rfl, ?_⟩
        trivial
       ·repeat (conv => whnf); first | refine ⟨OLE.of rfl, ?_⟩ | refine ⟨OLE.of (congrArg (AO.row 26 3) (by show af (bS k.s (k.l.take i)) = af (bS k.s (k.l.take (i + 1))); rw [fT _ hlt, eg, aO]; try simp [af])), ?_⟩ | refine ⟨OLE.of (congrArg (fun d => AO.mp 174 true (mdM d)) (by show pM k.l k.s [y] (dIn k.l k.s (k.l.take i) k.d) = dIn k.l k.s (k.l.take (i + 1)) k.d; rw [gb _ _ _ hlt, ew])), ?_⟩
        trivial
     ·refine ⟨none, by show iW (.n k.l[i].kind) oH = _; simp [oH, iW, k3, k4, k10], ?_⟩;have ew : iC k.l[i] = none := by unfold iC; rw [if_neg k3, if_neg k4, if_neg k10]
      have eg : bL k.s k.l[i] = [] := by unfold bL; rw [ew]
      refine goS ?_;refine ⟨_, aq (n := i + 1) rfl (by omega), goS ?_⟩;refine ⟨⟨i + 1, hlt⟩, ?_, by show k.l.length - (i + 1) < k.l.length - i; omega⟩;refine Ge.of rfl ?_ ?_
      ·repeat (conv => whnf); refine ⟨LE.of rfl, ?_⟩
       trivial
      ·repeat (conv => whnf); first | refine ⟨OLE.of rfl, ?_⟩ | refine ⟨OLE.of (congrArg (AO.row 26 3) (by show af (bS k.s (k.l.take i)) = af (bS k.s (k.l.take (i + 1))); rw [fT _ hlt, eg, aO]; try simp [af])), ?_⟩ | refine ⟨OLE.of (congrArg (fun d => AO.mp 174 true (mdM d)) (by show dIn k.l k.s (k.l.take i) k.d = dIn k.l k.s (k.l.take (i + 1)) k.d; rw [gb _ _ _ hlt, ew])), ?_⟩
       trivial
  ·have hge : i = k.l.length := by have h2 := of_decide_eq_false h2; rw [ab] at h2; have h2 : ¬ (i : Int) < (k.l.length : Int) := h2; omega
   have htk : k.l.take i = k.l := by rw [hge, List.take_length]
   obtain ⟨M, eM⟩ : ∃ M, M = bS k.s k.l := ⟨_, rfl⟩
   obtain ⟨k1, e1⟩ : ∃ k1 : Kn, k1 = ⟨k.l, k.s, dIn k.l k.s k.l k.d⟩ := ⟨_, rfl⟩
   have hk1 : WK U k1 := by rw [e1]; exact { hk with d := rL k.l k.s k.l k.d hk.d hk.fit hk.wt }
   have hMs : ∀ u ∈ M, Fit u /\ wt u <= 1000000000 /\ aL u ∈ U := fun u hu => by
    rw [eM] at hu;obtain ⟨t, ht, hu⟩ := List.mem_flatMap.1 hu;have hu := qt hu;refine ⟨(hk.fit t ht).kid hu, by have := hk.wt t ht; have := fJ hu; have := bR t; omega, ?_⟩;rw [rJ (hk.can t ht) hu];exact hU t (hk.sub t ht) u hu
   have hMl : M.length <= 2000000000000 := by
    have h1 := hml' k hk k.l.length;rw [List.take_length] at h1;rw [eM];exact h1
   have hpart : ∀ m, WK U ((M.take m).foldl cq k1) := fun m => WK.adds _ hk1 (fun t ht => (hMs t (List.mem_of_mem_take ht)).1) (fun t ht => (hMs t (List.mem_of_mem_take ht)).2.1) (fun t ht => (hMs t (List.mem_of_mem_take ht)).2.2)
   have hstep : M.foldl cq k1 = ke k := by rw [eM, e1]; rfl
   refine goS ?_;refine ⟨{ m : Nat // m <= M.length }, fun m => Vc.S.of [(3, .ptr 1900 0), (4, .slc 1910), (5, iv ((af k.l).length : Int)), (60, .slc 6), (61, iv ((af M).length : Int)), (62, iv (m.1 : Int))] ((6, .row 26 3 (af M)) :: AN ((M.take m.1).foldl cq k1)), fun m => M.length - m.1, ⟨0, Nat.zero_le _⟩, ?_, ?_⟩
   ·have em : bS k.s (k.l.take i) = M := by rw [htk, eM]
    have ed : (⟨k.l, k.s, dIn k.l k.s (k.l.take i) k.d⟩ : Kn) = k1 := by rw [htk, e1]
    refine Ge.of rfl ?_ ?_
    ·repeat (conv => whnf); first | refine ⟨LE.of rfl, ?_⟩ | refine ⟨LE.of (congrArg (fun l => iv ((af l).length : Int)) em), ?_⟩
     trivial
    ·repeat (conv => whnf); first | refine ⟨OLE.of rfl, ?_⟩ | refine ⟨OLE.of (congrArg (fun l => AO.row 26 3 (af l)) em), ?_⟩ | refine ⟨OLE.of (congrArg (fun k : Kn => AO.row 26 3 (af k.l)) ed), ?_⟩ | refine ⟨OLE.of (congrArg (fun k : Kn => AO.mp 174 true (isM k.s)) ed), ?_⟩ | refine ⟨OLE.of (congrArg (fun k : Kn => AO.mp 174 true (mdM k.d)) ed), ?_⟩
     trivial
   rintro ⟨m, hm⟩
   refine goS ?_;refine aa ?_ ?_ <;> intro h3
   ·have hlt : m < M.length := by have := of_decide_eq_true h3; rw [ab] at this; exact Int.ofNat_lt.1 this
    have hu := hMs _ (List.getElem_mem hlt);have hp := (hpart m).len;have enx : (M.take (m + 1)).foldl cq k1 = cq ((M.take m).foldl cq k1) M[m] := by rw [List.take_succ_eq_append_getElem hlt, List.foldl_append]; rfl
    refine goS ?_;refine ⟨Int.natCast_nonneg _, by show m < (af M).length; rw [ab]; exact hlt, goS ?_⟩;refine ⟨TV M[m], dm hlt, rfl, rfl, rfl, goS ?_⟩;refine ⟨_, ac.pr gAn (A2 ((M.take m).foldl cq k1) M[m] hu.1 hu.2.1 (by omega)) ⟨LE.of rfl, LE.of rfl, trivial⟩ ⟨.inr (.inl rfl), .inr (.inl rfl), .inr (.inl rfl), .inr (.inl rfl), trivial⟩ rfl, goS ?_⟩;refine ⟨_, aq (n := m + 1) rfl (by omega), goS ?_⟩;refine ⟨⟨m + 1, hlt⟩, ?_, by show M.length - (m + 1) < M.length - m; omega⟩;refine Ge.of rfl ?_ ?_
    ·repeat (conv => whnf); refine ⟨LE.of rfl, ?_⟩
     trivial
    ·repeat (conv => whnf); first | refine ⟨OLE.of rfl, ?_⟩ | refine ⟨OLE.of (congrArg (fun k : Kn => AO.row 26 3 (af k.l)) enx.symm), ?_⟩ | refine ⟨OLE.of (congrArg (fun k : Kn => AO.mp 174 true (isM k.s)) enx.symm), ?_⟩ | refine ⟨OLE.of (congrArg (fun k : Kn => AO.mp 174 true (mdM k.d)) enx.symm), ?_⟩
     trivial
   ·have hge2 : m = M.length := by have h3 := of_decide_eq_false h3; rw [ab] at h3; have h3 : ¬ (m : Int) < (M.length : Int) := h3; omega
    have eend : (M.take m).foldl cq k1 = itK (ofT l) (j + 1) := by rw [hge2, List.take_length, hstep, ek]; rfl
    have hwas : tJ (ofT l) (itK (ofT l)) j < ((af k.l).length : Int) := by rw [ek]; exact of_decide_eq_true h1
    have hwas2 : -1 <= tJ (ofT l) (itK (ofT l)) j := by cases j with | zero => exact Int.le_refl _ | succ j => show (-1 : Int) <= ((af (itK (ofT l) j).l).length : Int); omega
    have ew2 : tJ (ofT l) (itK (ofT l)) (j + 1) = ((af k.l).length : Int) := by rw [ek]; rfl
    refine goS ?_;refine ⟨⟨j + 1, fun i2 h => ?_, ?_⟩, ?_, ?_⟩
    ·by_cases h4 : i2 + 1 < j
     ·exact hj i2 h4
     ·have : j = i2 + 1 := by omega
      subst this;rw [ek, ab] at hwas;have hwas : ((af (itK (ofT l) i2).l).length : Int) < _ := hwas;rw [ab] at hwas;exact Int.ofNat_lt.1 hwas
    ·show WK U (ke (itK (ofT l) j));rw [<- ek];exact hk.step hU
    ·refine Ge.of rfl ?_ ?_
     ·repeat (conv => whnf); first | refine ⟨LE.of rfl, ?_⟩ | refine ⟨LE.of (congrArg iv ew2.symm), ?_⟩
      trivial
     ·repeat (conv => whnf); first | refine ⟨OLE.of rfl, ?_⟩ | refine ⟨OLE.of (congrArg (fun k : Kn => AO.row 26 3 (af k.l)) eend), ?_⟩ | refine ⟨OLE.of (congrArg (fun k : Kn => AO.mp 174 true (isM k.s)) eend), ?_⟩ | refine ⟨OLE.of (congrArg (fun k : Kn => AO.mp 174 true (mdM k.d)) eend), ?_⟩
      trivial
    ·show U.length + 1 - (tJ (ofT l) (itK (ofT l)) (j + 1) + 1).toNat < U.length + 1 - (tJ (ofT l) (itK (ofT l)) j + 1).toNat;rw [ew2];rw [ab] at hwas ⊢;omega
 ·have h1 : ¬ tJ (ofT l) (itK (ofT l)) j < ((af (itK (ofT l) j).l).length : Int) := of_decide_eq_false h1;have hj0 : 0 < j := by
   cases j with
   | zero => exact absurd (show (-1 : Int) < _ by omega) h1
   | succ j => omega
  have hend : itK (ofT l) j = e := by
   refine he j hj hj0 ?_;cases j with
   | zero => omega
   | succ j =>
    have h1 : ¬ ((af (itK (ofT l) j).l).length : Int) < ((af (itK (ofT l) (j + 1)).l).length : Int) := h1;rw [ab, ab] at h1;show (itK (ofT l) (j + 1)).l.length <= (itK (ofT l) j).l.length;omega
  refine goS ?_;exact rR gAn (b := ⟨.inr (.inl rfl), .inr (.inl (congrArg (fun k : Kn => AO.row 26 3 (af k.l)) hend)), .inr (.inl (congrArg (fun k : Kn => AO.mp 174 true (isM k.s)) hend)), .inr (.inl (congrArg (fun k : Kn => AO.mp 174 true (mdM k.d)) hend)), trivial⟩)
end Go.Sl
namespace Go.Sl
open Go Go.Vc Go.Proofs Go.RowKit
theorem E9 {P : Nat -> Prop} : ∀ n, P n -> ∃ m, P m /\ ∀ i, i < m -> ¬ P i := by
 intro n
 induction n using Nat.strongRecOn with
 | _ n ih =>
 intro h
 by_cases hx : ∃ i, i < n /\ P i
 ·obtain ⟨i, hi, hp⟩ := hx;exact ih i hi hp
 ·exact ⟨n, h, fun i hi hp => hx ⟨i, hi, hp⟩⟩
theorem vW {U : List Tm} (hU : ∀ t ∈ U, ∀ u ∈ t.kids, u ∈ U) {k : Kn} (h : WK U k) : ∀ j, WK U (itK k j)
 | 0 => h
 | j + 1 => (vW hU h j).step hU
theorem F0 {U : List Tm} (hU : ∀ t ∈ U, ∀ u ∈ t.kids, u ∈ U) {k : Kn} (h : WK U k) : ∃ e : Kn, WK U e /\ (∃ m, e = itK k (m + 1) /\ (itK k (m + 1)).l.length <= (itK k m).l.length) /\
  ∀ j, (∀ i, i + 1 < j -> (itK k i).l.length < (itK k (i + 1)).l.length) -> 0 < j -> (itK k j).l.length <= (itK k (j - 1)).l.length -> itK k j = e := by
 have hex : ∃ n, (itK k (n + 1)).l.length <= (itK k n).l.length := by
  refine Classical.byContradiction fun hc => ?_
  have hg : ∀ n, (itK k n).l.length < (itK k (n + 1)).l.length := fun n => Nat.lt_of_not_le fun hle => hc ⟨n, hle⟩
  have hn : ∀ n, n <= (itK k n).l.length := by
   intro n
   induction n with
   | zero => exact Nat.zero_le _
   | succ n ih => have := hg n; omega
  have h1 := hn (U.length + 1);have h2 := (vW hU h (U.length + 1)).len;omega
 obtain ⟨n, hn⟩ := hex;obtain ⟨m, hm, hl⟩ := E9 (P := fun n => (itK k (n + 1)).l.length <= (itK k n).l.length) n hn;refine ⟨itK k (m + 1), vW hU h (m + 1), ⟨m, rfl, hm⟩, fun j hj h0 hle => ?_⟩;obtain ⟨j, rfl⟩ : ∃ i, j = i + 1 := ⟨j - 1, by omega⟩
 have h1 : ¬ j < m := fun hlt => hl j hlt (by simpa using hle)
 have h2 : ¬ m < j := fun hlt => by have := hj m (by omega); omega
 rw [show j = m by omega]
theorem A6 (L : List Tm) (S : List Bs) (D : List (Bs × Bool)) (hD : DOk S D) (l : List Tm) (t : Tm) (hf : Fit t) (hw : wt t <= 1000000000)
  (h : PM (cx true) 54 [] [lv l] (KS L S D) (.ptr 2000 0)) :
  K true 18 [lv l, tv t] (.pv (.bool (mkB S (aL t)))) := by
 obtain ⟨D', d1, d2⟩ := A3 L S t hf hw D hD;refine pcv { own := oO [100006, 100008], tr := trT [(1, [0, 1, 0, 7, 15], .one 0 (.alt (qQ [1, 2, 3, 4] .fin) (qQ [2, 1, 3, 4] .fin)))] } Tryz.func18 ?_
 repeat' ((conv => whnf); first | refine sS ?_ | refine aQ ?_ ?_)
 all_goals (conv => whnf)
 all_goals refine ⟨_, ac.pr (gT [(2000, 1900), (1001, 1901), (2002, 1902), (2003, 1903)]) h ⟨LE.of rfl, trivial⟩ trivial rfl, ?_⟩
 repeat' ((conv => whnf); first | refine sS ?_ | refine aQ ?_ ?_)
 all_goals (conv => whnf)
 all_goals refine ⟨_, ac.pr (gT [(2000, 1900), (2001, 1901), (2002, 1902), (2003, 1903)]) d2 ⟨LE.of rfl, LE.of rfl, trivial⟩ ⟨.inr (.inl rfl), .inr (.inl rfl), .inr (.inl rfl), .inr (.inl rfl), trivial⟩ rfl, ?_⟩
 repeat' ((conv => whnf); first | refine sS ?_ | refine aQ ?_ ?_)
 all_goals (conv => whnf)
 all_goals exact LEP.refl _
end Go.Sl
namespace Go.Sl
open Go Go.Vc Go.Proofs Go.RowKit
theorem WK.nil (U : List Tm) : WK U ⟨[], [], []⟩ :=
 {s := rfl, ne := fun t h => (by cases h), nd := List.nodup_nil, fit := fun t h => (by cases h), wt := fun t h => (by cases h), can := fun t h => (by cases h), sub := fun t h => (by cases h), d := DOk.nil _ }
def tK (l : List Tm) : List Tm := ns (l.map aL)
theorem tL (l : List Tm) : ∀ t ∈ tK l, ∀ u ∈ t.kids, u ∈ tK l := fun t ht u hu => by
 obtain ⟨w, hw, ht⟩ := nC ht;exact ln hw (Ec ht hu)
theorem Hn {l : List Tm} (hf : ∀ t ∈ l, Fit t) (hw : ∀ t ∈ l, wt t <= 1000000000) : WK (tK l) (ofT l) :=
 WK.adds l (WK.nil _) hf hw fun t ht => ln (List.mem_map.2 ⟨t, ht, rfl⟩) (tG _)
theorem Ee : ∀ t : Tm, (inT t).length = t.size := by
 intro t
 induction t using Tm.indk with
 | h t ih =>
 have key : ∀ l : List Tm, (∀ u ∈ l, (inT u).length = u.size) -> (ns l).length = Tm.sizes l := by
  intro l
  induction l with
  | nil => intro _; rfl
  | cons u l ihl =>
   intro h;rw [ns, List.length_append, h u (List.mem_cons_self ..), ihl fun v hv => h v (List.mem_cons_of_mem _ hv), Tm.sizes]
 rw [rK, List.length_cons, key t.kids ih, Tm.size_eq]
theorem A7 (l : List Tm) : (ns l).length = Tm.sizes l := by
 induction l with
 | nil => rfl
 | cons u l ih => rw [ns, List.length_append, Ee, ih, Tm.sizes]
theorem tM : ∀ t : Tm, (aL t).size = t.size := by
 intro t
 induction t using Tm.indk with
 | h t ih =>
 have hm : ∀ l : List Tm, (∀ u ∈ l, (aL u).size = u.size) -> Tm.sizes (l.map aL) = Tm.sizes l := by
  intro l
  induction l with
  | nil => intro _; rfl
  | cons u l ihl => intro h; simp only [List.map_cons, Tm.sizes]; rw [h u (List.mem_cons_self ..), ihl fun v hv => h v (List.mem_cons_of_mem _ hv)]
 have e := hm t.kids ih;rw [eU, Tm.size_eq t, Tm.size_eq, <- e];rcases (dG t.kind t.name (t.kids.map aL)).2.2 with h | ⟨x, y, h1, h2⟩
 ·rw [h]
 ·rw [h2, h1];simp only [Tm.sizes];omega
theorem tN (l : List Tm) : (tK l).length = Tm.sizes l := by
 rw [tK, A7]
 induction l with
 | nil => rfl
 | cons u l ih => simp only [List.map_cons, Tm.sizes, tM, ih]
def F3 (l : List Tm) (e : Kn) : Prop := WK (tK l) e /\ ∃ m, e = itK (ofT l) (m + 1) /\ (itK (ofT l) (m + 1)).l.length <= (itK (ofT l) m).l.length
theorem vX {S : List Bs} {t : Tm} : (bL S t).length <= t.kids.length := by
 unfold bL;split
 ·rename_i n g h;have hg : g.length <= t.kids.length := by
   unfold iC at h
   repeat' split at h
   all_goals first
    | (cases h; done)
    | (rename_i e; cases h; rw [e]; simp; done)
    | (cases h; exact Nat.le_refl _)
  split
  ·exact hg
  ·exact Nat.zero_le _
 ·exact Nat.zero_le _
theorem qu {S : List Bs} {n : Nat} : ∀ {l : List Tm}, (∀ t ∈ l, t.kids.length <= n) -> (bS S l).length <= l.length * n
 | [], _ => by simp [bS]
 | t :: l, h => by
  have h1 := Nat.le_trans (vX (S := S) (t := t)) (h t (List.mem_cons_self ..));have h2 := qu (S := S) (l := l) fun u hu => h u (List.mem_cons_of_mem _ hu)
  have e : bS S (t :: l) = bL S t ++ bS S l := rfl;rw [e, List.length_append, List.length_cons, Nat.succ_mul];omega
theorem yx (l : List Tm) (hf : ∀ t ∈ l, Fit t) (hw : ∀ t ∈ l, wt t <= 1000000000) (hs : Tm.sizes l <= 10000000) (hk : ∀ t ∈ tK l, t.kids.length <= 100000) (hl : l.length <= 10000000) :
  ∃ e, F3 l e /\ ∀ t, Fit t -> wt t <= 1000000000 -> K true 18 [lv l, tv t] (.pv (.bool (mkB e.s (aL t)))) := by
 have h0 := Hn hf hw;obtain ⟨e, h1, h2, h3⟩ := F0 (tL l) h0;refine ⟨e, ⟨h1, h2⟩, fun t ft wt => ?_⟩;refine A6 e.l e.s e.d h1.d l t ft wt (rM (tK l) (tL l) l hf hw (by omega) h0 (by rw [tN]; omega) (fun k hkk i => ?_) e h3);have hkl := hkk.len;rw [tN] at hkl;have h1 := qu (S := k.s) (l := k.l.take i) (n := 100000) fun t ht => hk t (hkk.sub t (List.mem_of_mem_take ht))
 have h2 : (k.l.take i).length <= 10000000 := by rw [List.length_take]; omega
 have h3 : (k.l.take i).length * 100000 <= 10000000 * 100000 := Nat.mul_le_mul_right _ h2;omega
end Go.Sl
namespace Go.Sl
open Go Go.Vc Go.Proofs Go.RowKit
def gdT (t : Tm) : Prop := aG t ≠ [] /\ aL t = t
theorem ky {t : Tm} : aG t ≠ [] ↔ t.shp = true /\ t.depth <= 60 := by
 rw [<- tw]
 constructor
 ·exact fun h => rI h
 ·intro h;rw [aG, if_pos h];exact Tm.text_ne t
theorem iD (t : Tm) : t.shp = true ↔ (Tm.known t.kind = true /\ (Tm.named t.kind == !t.name.isEmpty) = true /\ (Tm.arity t.kind < 0 \/ (t.kids.length : Int) = Tm.arity t.kind)) /\ ∀ u ∈ t.kids, u.shp = true := by
 obtain ⟨k, n, l⟩ := t;simp only [Tm.shp, Tm.kind, Tm.name, Tm.kids, Bool.and_eq_true, Bool.or_eq_true, decide_eq_true_eq, Tm.shps_iff, and_assoc]
theorem kz {t u : Tm} (h : u ∈ t.kids) : u.depth < t.depth := by
 rw [fg t]; have := Tm.depth_mem h; omega
theorem fp {t u : Tm} (h : gdT t) (hu : u ∈ t.kids) : gdT u := by
 obtain ⟨h1, h2⟩ := h;rw [ky] at h1;refine ⟨ky.2 ⟨((iD t).1 h1.1).2 u hu, by have := kz hu; omega⟩, rJ h2 hu⟩
theorem A8 {t x : Tm} (h : gdT t) (hx : x ∈ t.kids) : gdT (dY x) := by
 have hk := fp h hx;obtain ⟨h1, h2⟩ := hk;have h3 := ky.1 h1;have h4 := ky.1 h.1;refine ⟨ky.2 ⟨(iD _).2 ⟨⟨rfl, rfl, .inr rfl⟩, fun u hu => ?_⟩, ?_⟩, ?_⟩
 ·simp only [dY, Tm.kids, List.mem_singleton] at hu;rw [hu]; exact h3.1
 ·have := kz hx;rw [fg];simp only [dY, Tm.kids, Tm.depths];omega
 ·rw [eU];simp only [dY, Tm.kind, Tm.name, Tm.kids, List.map_cons, List.map_nil, h2];rfl
inductive Cl (B : Tm -> Prop) : Tm -> Prop where
 | base {t : Tm} : B t -> gdT t -> Cl B t
 | data {t : Tm} : gdT t -> t.kind = 1 -> Cl B t
 | comp {t : Tm} : gdT t -> t.kind ≠ 1 -> t.kind ≠ 2 -> t.kind ≠ 9 -> (∀ u ∈ t.kids, Cl B u) -> Cl B t
 | sh1 {t x y : Tm} : gdT t -> t.kind = 9 -> t.kids = [x, y] -> Cl B x -> Cl B (dY y) -> Cl B t
 | sh2 {t x y : Tm} : gdT t -> t.kind = 9 -> t.kids = [x, y] -> Cl B y -> Cl B (dY x) -> Cl B t
 | pair {t u : Tm} : Cl B t -> t.kind = 3 -> u ∈ t.kids -> Cl B u
 | enc {t x y : Tm} : Cl B t -> t.kind = 4 -> t.kids = [x, y] -> Cl B x -> Cl B y
 | mask {t x y : Tm} : Cl B t -> t.kind = 10 -> t.kids = [x, y] -> Cl B y -> Cl B x
theorem Cl.gd {B : Tm -> Prop} {t : Tm} (h : Cl B t) : gdT t := by
 induction h with
 | base _ h => exact h
 | data h _ => exact h
 | comp h _ _ _ _ _ => exact h
 | sh1 h _ _ _ _ _ _ => exact h
 | sh2 h _ _ _ _ _ _ => exact h
 | pair _ _ hu ih => exact fp ih hu
 | enc _ _ e _ ih _ => exact fp ih (by rw [e]; simp)
 | mask _ _ e _ ih _ => exact fp ih (by rw [e]; simp)
theorem Cl.cut {B A : Tm -> Prop} {t : Tm} (hB : ∀ u, B u -> gdT u -> Cl A u) (h : Cl B t) : Cl A t := by
 induction h with
 | base hb hg => exact hB _ hb hg
 | data h k => exact .data h k
 | comp h k1 k2 k9 _ ih => exact .comp h k1 k2 k9 ih
 | sh1 h k e _ _ i1 i2 => exact .sh1 h k e i1 i2
 | sh2 h k e _ _ i1 i2 => exact .sh2 h k e i1 i2
 | pair _ k hu ih => exact .pair ih k hu
 | enc _ k e _ i1 i2 => exact .enc i1 k e i2
 | mask _ k e _ i1 i2 => exact .mask i1 k e i2
theorem Cl.mono {B A : Tm -> Prop} {t : Tm} (hB : ∀ u, B u -> A u) (h : Cl B t) : Cl A t := h.cut fun u hb hg => .base (hB u hb) hg
def Fr (l : List Tm) (t : Tm) : Prop := ∃ v ∈ l, aL v = t
theorem nE {l : List Tm} (hn : ∀ t ∈ l, aG t ≠ []) {t : Tm} (ht : aG t ≠ []) : aG t ∈ l.map aG ↔ t ∈ l := by
 constructor
 ·intro h;obtain ⟨u, hu, e⟩ := List.mem_map.1 h;rw [<- tC (hn u hu) e]; exact hu
 ·exact fun h => List.mem_map.2 ⟨t, h, rfl⟩
theorem A9 {t : Tm} (h : gdT t) (hk : t.kind = 4 \/ t.kind = 5 \/ t.kind = 9 \/ t.kind = 10) : ∃ x y, t.kids = [x, y] := by
 have h1 := ((iD t).1 (ky.1 h.1).1).1.2.2;have h2 : Tm.arity t.kind = 2 := by rcases hk with e | e | e | e <;> rw [e] <;> rfl
 rw [h2] at h1;have h3 : t.kids.length = 2 := by omega
 match t.kids, h3 with
 | [x, y], _ => exact ⟨x, y, rfl⟩
theorem xo {B : Tm -> Prop} {l : List Tm} (hl : ∀ t ∈ l, Cl B t) : ∀ (n : Nat) (t : Tm), t.size <= n -> aL t = t -> mkB (l.map aG) t = true -> Cl B t
 | 0, t, hn, _, _ => by have := Tm.size_pos t; omega
 | n + 1, t, hn, hc, h => by
  rw [jr] at h;have ih : ∀ u, u.size < t.size -> aL u = u -> mkB (l.map aG) u = true -> Cl B u := fun u hu => xo hl n u (by omega)
  by_cases h1 : aG t = []
  ·rw [if_pos h1] at h; cases h
  rw [if_neg h1] at h;have hg : gdT t := ⟨h1, hc⟩
  by_cases h2 : aG t ∈ l.map aG
  ·exact hl t ((nE (fun t ht => (hl t ht).gd.1) h1).1 h2)
  rw [if_neg h2] at h
  by_cases k1 : t.kind = 1
  ·exact .data hg k1
  rw [if_neg k1] at h
  by_cases k2 : t.kind = 2
  ·rw [if_pos k2] at h; cases h
  rw [if_neg k2] at h
  by_cases k9 : t.kind = 9
  ·rw [if_pos k9] at h;obtain ⟨x, y, e⟩ := A9 hg (.inr (.inr (.inl k9)));have hp := ll e;have hx : x ∈ t.kids := by rw [e]; simp
   have hy : y ∈ t.kids := by rw [e]; simp
   rw [e] at h;simp only [Bool.or_eq_true, Bool.and_eq_true] at h;rcases h with ⟨a, b⟩ | ⟨a, b⟩
   ·exact .sh1 hg k9 e (ih x (size_mem hx) (fp hg hx).2 a) (ih _ hp.2 (A8 hg hy).2 b)
   ·exact .sh2 hg k9 e (ih y (size_mem hy) (fp hg hy).2 a) (ih _ hp.1 (A8 hg hx).2 b)
  rw [if_neg k9, List.all_eq_true] at h;exact .comp hg k1 k2 k9 fun u hu => ih u (size_mem hu) (fp hg hu).2 (h u hu)
structure Sd (B : Tm -> Prop) (k : Kn) : Prop where
 cl : ∀ t ∈ k.l, Cl B t
 s : k.s = k.l.map aG
theorem Sd.add {B : Tm -> Prop} {k : Kn} (h : Sd B k) {t : Tm} (ht : aG (aL t) ≠ [] -> Cl B (aL t)) : Sd B (cq k t) := by
 unfold cq;split
 ·exact h
 ·rename_i hn;simp only [not_or] at hn;refine ⟨fun u hu => ?_, by simp [h.s]⟩;rcases List.mem_append.1 hu with hu | hu
  ·exact h.cl u hu
  ·rw [List.mem_singleton.1 hu]; exact ht hn.1
theorem Sd.adds {B : Tm -> Prop} : ∀ (m : List Tm) {k : Kn}, Sd B k -> (∀ t ∈ m, aG (aL t) ≠ [] -> Cl B (aL t)) -> Sd B (m.foldl cq k)
 | [], k, h, _ => h
 | t :: m, k, h, hm => Sd.adds m (h.add (hm t (List.mem_cons_self ..))) fun u hu => hm u (List.mem_cons_of_mem _ hu)
theorem Sd.more {B : Tm -> Prop} {k : Kn} (h : Sd B k) : ∀ u ∈ bS k.s k.l, Cl B u := by
 intro u hu;obtain ⟨t, ht, hu⟩ := List.mem_flatMap.1 hu;have hc := h.cl t ht;have hg := hc.gd;unfold bL at hu;split at hu
 ·rename_i n g e;split at hu
  ·rename_i hn;unfold iC at e;split at e
   ·rename_i k3;cases e;exact .pair hc k3 hu
   ·split at e
    ·rename_i k4;obtain ⟨x, y, ek⟩ := A9 hg (.inl k4);rw [ek] at e;cases e;simp only [List.all_cons, List.all_nil, Bool.and_true] at hn;simp only [List.mem_singleton] at hu;subst hu;have hx : x ∈ t.kids := by rw [ek]; simp
     refine .enc hc k4 ek (xo h.cl _ x (Nat.le_refl _) (fp hg hx).2 (by rw [<- h.s]; exact hn))
    ·split at e
     ·rename_i k10;obtain ⟨x, y, ek⟩ := A9 hg (.inr (.inr (.inr k10)));rw [ek] at e;cases e;simp only [List.all_cons, List.all_nil, Bool.and_true] at hn;simp only [List.mem_singleton] at hu;subst hu;have hy : y ∈ t.kids := by rw [ek]; simp
      refine .mask hc k10 ek (xo h.cl _ y (Nat.le_refl _) (fp hg hy).2 (by rw [<- h.s]; exact hn))
     ·cases e
  ·cases hu
 ·cases hu
theorem Sd.step {B : Tm -> Prop} {k : Kn} (h : Sd B k) : Sd B (ke k) := by
 have h' : Sd B ⟨k.l, k.s, dIn k.l k.s k.l k.d⟩ := ⟨h.cl, h.s⟩
 refine Sd.adds _ h' fun t ht _ => ?_
 have := h.more t ht;rw [this.gd.2]; exact this
theorem Sd.of (l : List Tm) : Sd (Fr l) (ofT l) :=
 Sd.adds l (k := ⟨[], [], []⟩) ⟨fun t h => (by cases h), rfl⟩ fun t ht hr => .base ⟨t, ht, rfl⟩ ⟨hr, jQ t⟩
theorem Sd.it {B : Tm -> Prop} {k : Kn} (h : Sd B k) : ∀ j, Sd B (itK k j)
 | 0 => h
 | j + 1 => (Sd.it h j).step
theorem qv : ∀ (m : List Tm) (k : Kn), (m.foldl cq k).l.length <= k.l.length -> (m.foldl cq k).l = k.l /\ (m.foldl cq k).s = k.s /\ ∀ u ∈ m, aG (aL u) ≠ [] -> aG (aL u) ∈ k.s
 | [], k, _ => ⟨rfl, rfl, fun u h => (by cases h)⟩
 | t :: m, k, h => by
  have key : ∀ (m : List Tm) (k : Kn), k.l.length <= (m.foldl cq k).l.length := by
   intro m
   induction m with
   | nil => intro k; exact Nat.le_refl _
   | cons t m ih =>
    intro k;refine Nat.le_trans ?_ (ih (cq k t));unfold cq;split
    ·exact Nat.le_refl _
    ·simp
  have h1 := key m (cq k t);rw [List.foldl_cons] at h
  by_cases hc : aG (aL t) = [] \/ aG (aL t) ∈ k.s
  ·have e : cq k t = k := if_pos hc;rw [e] at h;obtain ⟨g1, g2, g3⟩ := qv m k h;rw [List.foldl_cons, e];refine ⟨g1, g2, fun u hu hr => ?_⟩;cases hu with
   | head => exact hc.resolve_left hr
   | tail _ hu => exact g3 u hu hr
  ·exfalso
   have e : (cq k t).l.length = k.l.length + 1 := by unfold cq; rw [if_neg hc]; simp
   omega
theorem yy {k : Kn} {t u : Tm} (h : u ∈ k.l) : u ∈ (cq k t).l := by
 unfold cq;split
 ·exact h
 ·exact List.mem_append_left _ h
theorem mf : ∀ (m : List Tm) {k : Kn} {u : Tm}, u ∈ k.l -> u ∈ (m.foldl cq k).l
 | [], k, u, h => h
 | t :: m, k, u, h => mf m (yy h)
theorem yz {k : Kn} {u : Tm} (h : u ∈ k.l) : u ∈ (ke k).l := mf _ (k := ⟨k.l, k.s, dIn k.l k.s k.l k.d⟩) h
theorem xp {k : Kn} {u : Tm} (h : u ∈ k.l) : ∀ j, u ∈ (itK k j).l
 | 0 => h
 | j + 1 => yz (xp h j)
theorem xq {B : Tm -> Prop} : ∀ (m : List Tm) {k : Kn}, Sd B k -> (∀ t ∈ m, aG (aL t) ≠ [] -> Cl B (aL t)) -> ∀ t ∈ m, aG (aL t) ≠ [] -> aL t ∈ (m.foldl cq k).l
 | [], k, _, _, t, ht, _ => by cases ht
 | x :: m, k, h, hm, t, ht, hr => by
  have hx := h.add (hm x (List.mem_cons_self ..));cases ht with
  | head =>
   rw [List.foldl_cons];refine mf m ?_;unfold cq;split
   ·rename_i hc;have hc := hc.resolve_left hr;rw [h.s] at hc;exact (nE (fun u hu => (h.cl u hu).gd.1) hr).1 hc
   ·exact List.mem_append_right _ (List.mem_singleton.2 rfl)
  | tail _ ht => exact xq m hx (fun u hu => hm u (List.mem_cons_of_mem _ hu)) t ht hr
structure vY (l : List Tm) (e : Kn) : Prop where
 sd : Sd (Fr l) e
 base : ∀ t ∈ l, aG (aL t) ≠ [] -> aL t ∈ e.l
 shut : ∀ t ∈ e.l, ∀ u ∈ bL e.s t, u ∈ e.l
theorem F3.fin {l : List Tm} {e : Kn} (h : F3 l e) : vY l e := by
 obtain ⟨hw, m, he, hle⟩ := h;have hs : Sd (Fr l) (itK (ofT l) m) := (Sd.of l).it m;obtain ⟨k, ek⟩ : ∃ k, k = itK (ofT l) m := ⟨_, rfl⟩
 have e1 : e = ke k := by rw [he, ek]; rfl
 have hle : (ke k).l.length <= k.l.length := by rw [ek]; exact hle
 rw [<- ek] at hs;obtain ⟨g1, g2, g3⟩ := qv (bS k.s k.l) ⟨k.l, k.s, dIn k.l k.s k.l k.d⟩ hle;have g1 : (ke k).l = k.l := g1;have g2 : (ke k).s = k.s := g2;refine ⟨by rw [e1]; exact hs.step, fun t ht hr => ?_, fun t ht u hu => ?_⟩
 ·rw [he];exact xp (xq l (k := ⟨[], [], []⟩) (B := Fr l) ⟨fun t h => (by cases h), rfl⟩ (fun t ht hr => .base ⟨t, ht, rfl⟩ ⟨hr, jQ t⟩) t ht hr) _
 ·rw [e1, g2] at hu;rw [e1, g1] at ht ⊢;have hm : u ∈ bS k.s k.l := List.mem_flatMap.2 ⟨t, ht, hu⟩;have hc := hs.more u hm;have := g3 u hm (by rw [hc.gd.2]; exact hc.gd.1);rw [hc.gd.2] at this;have this : aG u ∈ k.s := this;rw [hs.s] at this;exact (nE (fun v hv => (hs.cl v hv).gd.1) hc.gd.1).1 this
theorem vY.txt {l : List Tm} {e : Kn} (h : vY l e) {t : Tm} (ht : aG t ≠ []) : aG t ∈ e.s ↔ t ∈ e.l := by
 rw [h.sd.s]; exact nE (fun v hv => (h.sd.cl v hv).gd.1) ht
theorem vY.made {l : List Tm} {e : Kn} (h : vY l e) {t : Tm} (ht : Cl (Fr l) t) : mkB e.s t = true := by
 have inl : ∀ t, gdT t -> t ∈ e.l -> mkB e.s t = true := fun t hg ht => by
  rw [jr, if_neg hg.1, if_pos ((h.txt hg.1).2 ht)]
 -- made, or there
 have split : ∀ t, gdT t -> t.kind ≠ 1 -> t.kind ≠ 2 -> t.kind ≠ 9 -> mkB e.s t = true -> t ∈ e.l \/ ∀ u ∈ t.kids, mkB e.s u = true := fun t hg k1 k2 k9 ht => by
  rw [jr, if_neg hg.1] at ht
  by_cases hm : aG t ∈ e.s
  ·exact .inl ((h.txt hg.1).1 hm)
  ·rw [if_neg hm, if_neg k1, if_neg k2, if_neg k9, List.all_eq_true] at ht;exact .inr ht
 induction ht with
 | base hb hg =>
  obtain ⟨v, hv, rfl⟩ := hb;exact inl _ hg (h.base v hv hg.1)
 | data hg k => rw [jr, if_neg hg.1]; split <;> simp [k]
 | comp hg k1 k2 k9 _ ih =>
  rw [jr, if_neg hg.1];split
  ·rfl
  ·rw [List.all_eq_true]; exact ih
 | sh1 hg k ek _ _ i1 i2 =>
  rw [jr, if_neg hg.1];split
  ·rfl
  ·rw [ek]; simp [i1, i2, k]
 | sh2 hg k ek _ _ i1 i2 =>
  rw [jr, if_neg hg.1];split
  ·rfl
  ·rw [ek]; simp [i1, i2, k]
 | pair hc k hu ih =>
  rename_i t u;rcases split t hc.gd (by rw [k]; decide) (by rw [k]; decide) (by rw [k]; decide) ih with hm | hm
  ·refine inl u (fp hc.gd hu) (h.shut t hm u ?_);unfold bL iC;rw [if_pos k];simpa using hu
  ·exact hm u hu
 | enc hc k ek _ i1 i2 =>
  rename_i t x y _;rcases split t hc.gd (by rw [k]; decide) (by rw [k]; decide) (by rw [k]; decide) i1 with hm | hm
  ·refine inl y (fp hc.gd (by rw [ek]; simp)) (h.shut t hm y ?_);unfold bL iC;rw [if_neg (by rw [k]; decide), if_pos k, ek];simp [i2]
  ·exact hm y (by rw [ek]; simp)
 | mask hc k ek _ i1 i2 =>
  rename_i t x y _;rcases split t hc.gd (by rw [k]; decide) (by rw [k]; decide) (by rw [k]; decide) i1 with hm | hm
  ·refine inl x (fp hc.gd (by rw [ek]; simp)) (h.shut t hm x ?_);unfold bL iC;rw [if_neg (by rw [k]; decide), if_neg (by rw [k]; decide), if_pos k, ek];simp [i2]
  ·exact hm x (by rw [ek]; simp)
theorem vY.iff {l : List Tm} {e : Kn} (h : vY l e) {t : Tm} (hc : aL t = t) : mkB e.s t = true ↔ Cl (Fr l) t :=
 ⟨fun hm => xo h.sd.cl _ t (Nat.le_refl _) hc (by rw [<- h.sd.s]; exact hm), h.made⟩
open Classical in
noncomputable def knT (l : List Tm) (t : Tm) : Bool := decide (Cl (Fr l) (aL t))
theorem nF {l : List Tm} {t : Tm} : knT l t = true ↔ Cl (Fr l) (aL t) := by unfold knT; exact @decide_eq_true_iff _ (Classical.propDecidable _)
end Go.Sl
namespace Go.Sl
open Go Go.Vc Go.Proofs Go.RowKit Go.Sort Go.Lib
abbrev tO : Bs := [106, 111, 105, 110, 32]
abbrev mg : Bs := [117, 115, 101]
def er (k : Tm) (what : Bs) (n : Int) : Tm := jp k (what ++ [32] ++ itoa n)
def db (a c : Tm) (fa fb : Bs) : Tm := bN (kc [jp a (tO ++ fa), jp c (tO ++ fb)])
abbrev mh : Bs := [115, 117, 98, 107, 101, 121, 97, 114, 109, 111, 114]
abbrev hY : Bs := [116, 105, 99, 107, 101, 116, 97, 114, 109, 111, 114]
theorem m8 (b : Bool) (k : Tm) (what : Bs) (n : Int) (hw : what.length <= 1000) (h0 : -9223372036854775808 <= n) (h1 : n <= 9223372036854775807) : K b 174 [tv k, sv what, iv n] (.pv (TV (er k what n))) := by
 have hl := bj h0 h1;refine pcv {} Tryz.func174 ?_;refine goL ?_;refine ⟨by show what.length + 1 <= _; omega, goL ?_⟩;refine cC (cL b n h0 h1) (goL ?_);refine ⟨by show (what ++ [32]).length + _ <= _; simp; omega, goL ?_⟩;refine cC (ox b k _) (goL ?_);exact LEP.refl _
theorem mj (b : Bool) (k : Tm) (n : Int) (h0 : -9223372036854775808 <= n) (h1 : n <= 9223372036854775807) : K b 128 [tv k, iv n] (.pv (TV (er k mg n))) := by
 refine pcv {} Tryz.func128 ?_;refine goL ?_;refine cC (m8 b k mg n (by decide) h0 h1) (goL ?_);exact LEP.refl _
theorem rN (b : Bool) (x y : Tm) (fa fb : Bs) (ha : fa.length <= 1000) (hb : fb.length <= 1000) : K b 77 [tv x, tv y, sv fa, sv fb] (.pv (TV (db x y fa fb))) := by
 refine pcv {} Tryz.func77 ?_;refine goL ?_;refine ⟨by show 5 + fa.length <= _; omega, goL ?_⟩;refine cC (ox b x _) (goL ?_);refine ⟨by show 5 + fb.length <= _; omega, goL ?_⟩;refine cC (ox b y _) (goL ?_);refine cC (jN b _ _ (cK _ _) (by simp)) (goL ?_);refine cC (fH b _) (goL ?_);exact LEP.refl _
theorem tP (b : Bool) (x y : Tm) : K b 36 [tv x, tv y] (.pv (TV (db x y mh hY))) := by
 refine pcv {} Tryz.func36 ?_;refine goL ?_;refine cC (rN b x y mh hY (by decide) (by decide)) (goL ?_);exact LEP.refl _
def ay (tag : Bs) (l : List Tm) : Tm := kc (bK tag :: l)
theorem bh (b : Bool) (tag : Bs) (L : List PV) (l : List Tm) (hL : L = af l) (hl : (l.length + 1) * 48 <= 140737488355328) : K b 74 [sv tag, .p (.lst L)] (.pv (TV (ay tag l))) := by
 refine pcv {} Tryz.func74 ?_;refine goL ?_;refine cC (iz b tag) (goL ?_);refine cC (ym b _ L [bK tag] l (dR (bK tag)) hL (by simp) (by simp; omega)) (goL ?_);refine cC (jN b _ _ rfl (by simp; omega)) (goL ?_);exact LEP.refl _
end Go.Sl
namespace Go.Sl
open Go Go.Vc Go.Proofs Go.RowKit Go.Sort Go.Lib
def fq (t : Tm) : Bs := if t.kind = 3 /\ t.name = [] then (match t.kids with | [] => [] | k :: _ => if k.kind = 1 /\ k.kids = [] then k.name else []) else []
def ao (tag : Bs) (n : Nat) (t : Tm) : Option (List Tm) := if tag ≠ [] /\ fq t = tag /\ t.kids.length = n + 1 then some (t.kids.drop 1) else none
theorem oI (b : Bool) (t : Tm) : K b 138 [tv t] (.tup [.str t.name, .bool (decide (t.kind = 1) && decide (t.kids = []))]) := by
 refine pcv {} Tryz.func138 ?_;refine goL ?_;refine aa ?_ ?_ <;> intro h1
 ·have h1 : t.kind = 1 := of_decide_eq_true h1;refine goL ?_;refine ⟨LEP.refl _, LEP.of (congrArg PV.bool ?_), trivial⟩;rw [Bool.eq_iff_iff];simp [h1, ab]
 ·have h1 : ¬ t.kind = 1 := of_decide_eq_false h1;refine goL ?_;refine ⟨LEP.refl _, LEP.of (congrArg PV.bool ?_), trivial⟩;simp [h1]
theorem Ef {t : Tm} (h1 : t.kind = 3) (h2 : t.name = []) (h : 0 < t.kids.length) : fq t = if t.kids[0].kind = 1 /\ t.kids[0].kids = [] then t.kids[0].name else [] := by
 obtain ⟨k, n, l⟩ := t;cases l with
 | nil => simp [Tm.kids] at h
 | cons x xs =>
  unfold fq;rw [if_pos ⟨h1, h2⟩];rfl
theorem Bi {t : Tm} (h : ¬ 0 < t.kids.length) : fq t = [] := by
 obtain ⟨k, n, l⟩ := t;cases l with
 | nil => simp [fq, Tm.kids]
 | cons x xs => simp [Tm.kids] at h
theorem rO (b : Bool) (t : Tm) : K b 93 [tv t] (.pv (.str (fq t))) := by
 refine pcv {} Tryz.func93 ?_;refine goL ?_;refine aa ?_ ?_ <;> intro h1
 ·have h1 : t.kind = 3 := of_decide_eq_true h1;refine goL ?_;refine aa ?_ ?_ <;> intro h2
  ·have h2 : t.name = [] := of_decide_eq_true h2;refine goL ?_;refine aa ?_ ?_ <;> intro h3
   ·have h3 : 0 < t.kids.length := by simpa [ab] using h3
    rw [Ef h1 h2 h3];refine goL ?_;refine ⟨TV t.kids[0], dm h3, rfl, rfl, goL ?_⟩;refine cC (oI b t.kids[0]) (goL ?_);refine aa ?_ ?_ <;> intro h4
    ·refine goL ?_;simp at h4;exact LEP.of (by rw [if_pos h4])
    ·refine goL ?_;simp at h4;exact LEP.of (by rw [if_neg (by simpa using h4)])
   ·have h3 : ¬ 0 < t.kids.length := by simpa [ab] using h3
    refine goL ?_;exact LEP.of (congrArg PV.str (Bi h3).symm)
  ·have h2 : ¬ t.name = [] := of_decide_eq_false h2;refine goL ?_;exact LEP.of (by simp [fq, h2])
 ·have h1 : ¬ t.kind = 3 := of_decide_eq_false h1;refine goL ?_;exact LEP.of (by simp [fq, h1])
theorem Bj {l : List Tm} {n : Nat} (h : l.length = n) : cut (af l) 1 n = af (l.drop 1) := by
 rw [cut, cw, cw, List.map_drop, List.take_of_length_le];simp;omega
def IC (o : Option (List Tm)) : Res := .tup [.lst (af (o.getD [])), .bool o.isSome]
theorem bD (b : Bool) (tag : Bs) (n : Nat) (t : Tm) (hn : n <= 1000) (hf : Fit t) : K b 46 [sv tag, iv n, tv t] (IC (ao tag n t)) := by
 have hlen := hf.len;refine pcv {} Tryz.func46 ?_;refine goL ?_;refine aa ?_ ?_ <;> intro h1
 ·have h1 : tag = [] := of_decide_eq_true h1;have e : ao tag n t = none := by simp [ao, h1]
  rw [e];refine goL ?_;exact ⟨LEP.refl _, LEP.refl _, trivial⟩
 ·have h1 : ¬ tag = [] := of_decide_eq_false h1;refine goL ?_;refine cC (rO b t) (goL ?_);refine aa ?_ ?_ <;> intro h2
  ·have h2 : ¬ fq t = tag := of_decide_eq_true h2;have e : ao tag n t = none := by simp [ao, h2]
   rw [e];refine goL ?_;exact ⟨LEP.refl _, LEP.refl _, trivial⟩
  ·have h2 : fq t = tag := by simpa using h2
   refine goL ?_;refine ⟨_, ry (n := ((af t.kids).length : Int) - 1) (by omega) (by rw [ab]; omega), goL ?_⟩;refine aa ?_ ?_ <;> intro h3
   ·have h3 : ¬ t.kids.length = n + 1 := by have := of_decide_eq_true h3; rw [ab] at this; omega
    have e : ao tag n t = none := by simp [ao, h3]
    rw [e];refine goL ?_;exact ⟨LEP.refl _, LEP.refl _, trivial⟩
   ·have h3 : t.kids.length = n + 1 := by have := of_decide_eq_false h3; rw [ab] at this; omega
    have e : ao tag n t = some (t.kids.drop 1) := if_pos ⟨h1, h2, h3⟩;rw [e];refine goL ?_;refine ⟨⟨_, rfl, gD _⟩, goL ?_⟩;refine ⟨Int.natCast_nonneg _, goL ?_⟩;refine ⟨Int.natCast_nonneg _, ?_⟩
    conv => whnf
    refine ⟨by rw [ab]; show 1 <= t.kids.length; omega, Nat.le_refl _, Nat.le_refl _, goL ?_⟩;refine ⟨LEP.of (congrArg PV.lst ?_), LEP.refl _, trivial⟩;show cut (af t.kids) 1 (af t.kids).length = af (t.kids.drop 1);rw [ab];exact Bj rfl
end Go.Sl
