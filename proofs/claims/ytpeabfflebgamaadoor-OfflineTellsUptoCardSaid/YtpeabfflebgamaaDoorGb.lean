/- Contracts: texts. -/
/- short -/
import Derived.Test.YtpeabfflebgamaaDoorGa
set_option linter.unusedVariables false
set_option linter.unusedSimpArgs false
namespace Go.Sl
open Go Go.Vc Go.Proofs Go.RowKit

def strL (l : List Bs) : List PV := l.map .str
theorem strL_length (l : List Bs) : (strL l).length = l.length := by simp [strL]
theorem strL_sz (l : List Bs) : allSz (false, 1) (strL l) := by
  induction l with
  | nil => trivial
  | cons x l ih => exact ⟨rfl, ih⟩
/-- strings.Join. -/
theorem join_ok' (b : Bool) (xs : List Bs) (sep : Bs) (hN : xs.length ≤ 140737488355328) (hlen : (Lib.join xs sep).length ≤ 140737488355328) : K b 80 [.p (.lst (strL xs)), sv sep] (.pv (.str (Lib.join xs sep))) := by
  refine ⟨⟨_, Tryd.func80, rfl, rfl⟩, fun ok β w vs hG hlt hr _ _ _ _ => ?_⟩
  match vs, hr with
  | [v, u], hr =>
    obtain ⟨hr, hr2, _⟩ := hr
    rw [R, RP] at hr
    rw [R, RP] at hr2
    subst hr2
    obtain ⟨A, cap, sz, rfl, hcap, hmax, hE⟩ := hr
    rw [strL_length] at hcap ⊢
    cases xs with
    | nil =>
      refine (Tryd.strings_Join_none A cap ⟨sep.toArray⟩ w).mono ?_
      rintro e w' ⟨rfl, rfl⟩
      exact ⟨_, rfl, by rw [RES, RP]; rfl, Below.refl _ _⟩
    | cons x xs =>
      have hget : ∀ (j : Nat) y, (x :: xs)[j]? = some y → ∃ ad, A = some ad ∧ ok ad.block ∧ w.cell? (ad.add j) = some (.string ⟨y.toArray⟩) := by
        intro j y hj
        obtain ⟨ad, c, h1, h2, h3, h4, h5⟩ := RPE_get hE (i := j) (x := .str y) (by rw [strL, List.getElem?_map, hj]; rfl)
        rw [RP] at h3
        subst h3
        have hsz : sz = 1 := h4.symm
        subst hsz
        refine ⟨ad, h1, h2, ?_⟩
        have := h5 0 (.string ⟨y.toArray⟩) rfl
        simpa using this
      obtain ⟨ad, rfl, hok, hc0⟩ := hget 0 x rfl
      obtain ⟨bk, o, spot⟩ := ad
      have hspot : spot = none := by simpa [Addr.add] using World.cell?_spot hc0
      subst hspot
      have := Tryd.strings_Join bk o cap ((x :: xs).map fun y => (⟨y.toArray⟩ : ByteArray)) ⟨sep.toArray⟩ w (fun j y hj => by
        rw [List.getElem?_map] at hj
        obtain ⟨z, hz, rfl⟩ := Option.map_eq_some_iff.1 hj
        obtain ⟨ad, h1, _, h3⟩ := hget j z hz
        cases h1
        rwa [add_plain] at h3) (hlt _ hok) (by rw [List.length_map]; exact hN) (by rw [List.length_map]; exact hcap) (by simpa [List.map_map, Function.comp_def] using hlen)
      rw [List.length_map] at this
      refine this.mono ?_
      rintro e w' ⟨rfl, hb⟩
      exact ⟨_, rfl, by rw [RES, RP]; simp [List.map_map, Function.comp_def], hb⟩
/-! text -/
theorem texts_join (l : List Tm) : Lib.join (l.map Tm.text) [44] = Tm.texts l := by
  have ht : ∀ l : List Tm, Lib.joinTail [44] (l.map Tm.text) = Tm.texts' l := by
    intro l
    induction l with
    | nil => simp [Lib.joinTail, Tm.texts']
    | cons t ts ih =>
      rw [Tm.texts', ← ih]
      simp [Lib.joinTail]
  cases l with
  | nil => simp [Lib.join_nil, Tm.texts]
  | cons t ts => rw [List.map_cons, Lib.join_cons, ht, Tm.texts]
theorem text_mk (t : Tm) : t.text = Tm.letter t.kind :: (Tm.nameText t.name ++ (if t.kids = [] ∧ t.kind ≠ 3 then [] else 40 :: (Tm.texts t.kids ++ [41]))) := by cases t; rw [Tm.text]; rfl
theorem text_pos (t : Tm) : 1 ≤ t.text.length := by rw [text_mk]; simp
theorem texts'_len (l : List Tm) : l.length ≤ (Tm.texts' l).length ∧ ∀ u ∈ l, u.text.length ≤ (Tm.texts' l).length := by
  induction l with
  | nil => simp
  | cons t ts ih =>
    rw [Tm.texts']
    simp only [List.length_cons, List.length_append, List.mem_cons]
    refine ⟨by omega, ?_⟩
    rintro u (rfl | hu)
    · omega
    · have := ih.2 u hu
      omega
theorem texts_len (l : List Tm) : l.length ≤ (Tm.texts l).length ∧ ∀ u ∈ l, u.text.length ≤ (Tm.texts l).length := by
  cases l with
  | nil => simp
  | cons t ts =>
    rw [Tm.texts]
    have := texts'_len ts
    have hp := text_pos t
    simp only [List.length_cons, List.length_append, List.mem_cons]
    refine ⟨by omega, ?_⟩
    rintro u (rfl | hu)
    · omega
    · have := this.2 u hu
      omega
theorem hbd16 {a b : Nat} (h : a + b ≤ 8796093022208) : (a + b) * tiStr.bytes ≤ 140737488355328 := by
  show (a + b) * 16 ≤ 140737488355328
  omega
theorem strL_take {l : List Tm} {i : Nat} (h : i < l.length) : strL ((l.take i).map Tm.text) ++ [.str l[i].text] = strL ((l.take (i + 1)).map Tm.text) := by
  rw [List.take_succ_eq_append_getElem h, List.map_append, strL, strL, List.map_append]
  rfl
theorem known_of_shp {t : Tm} (h : t.shp = true) : Tm.known t.kind = true ∧ ∀ u ∈ t.kids, u.shp = true := by
  obtain ⟨k, n, l⟩ := t
  simp only [Tm.shp, Bool.and_eq_true] at h
  exact ⟨h.1.1.1, (Tm.shps_iff l).1 h.2⟩
abbrev itoa' (n : Nat) : Bs := Lib.itoa (n : Int)
theorem text_ok : ∀ t, Fit t → t.shp = true → t.text.length ≤ 1099511627776 → K true 61 [tv t] (.pv (.str t.text)) := by
  intro t
  induction t using Tm.indk with
  | h t ih =>
  intro hf hs hb
  obtain ⟨hk, hks⟩ := known_of_shp hs
  have hk0 : 0 ≤ t.kind := by simp only [Tm.known, Bool.and_eq_true, decide_eq_true_eq] at hk; omega
  have hlen := hf.len
  have hnl : (Tm.nameText t.name).length ≤ 1099511627776 := by rw [text_mk] at hb; simp at hb; omega
  have htx : ¬ (t.kids = [] ∧ t.kind ≠ 3) → (Tm.texts t.kids).length + (Tm.nameText t.name).length + 3 ≤ 1099511627776 := by
    intro h
    rw [text_mk, if_neg h] at hb
    simp at hb
    omega
  have hdone : t.kids = [] ∧ t.kind ≠ 3 → t.text = Tm.letter t.kind :: Tm.nameText t.name := by
    intro h
    rw [text_mk, if_pos h]
    simp
  have hgo : ¬ (t.kids = [] ∧ t.kind ≠ 3) → t.text = Tm.letter t.kind :: Tm.nameText t.name ++ [40] ++ Tm.texts t.kids ++ [41] := by
    intro h
    rw [text_mk, if_neg h]
    simp
  have hz : ((tmvs t.kids).length : Int) = 0 ↔ t.kids = [] := by
    rw [tmvs_length]
    cases t.kids <;> simp
    omega
  refine PC_of_vc (cx_ok true) (mixed true) { own := fun q => Nat.beq q 4 || Nat.beq q 46 } Tryd.func61 (by kernel_rfl) rfl rfl (by kernel_rfl) ?_
  repeat (conv => whnf); first|refine IndepAnd (by kernel_rfl) ?_|refine ⟨rfl,?_⟩|refine And.intro (by first|decide|exact trivial|exact ⟨_,rfl,rfl⟩|exact ⟨rfl,trivial⟩|exact ⟨rfl,rfl,trivial⟩) ?_
  conv => whnf
  refine ⟨hk0, _, kinds_at hk, rfl, rfl, rfl, ?_⟩
  repeat (conv => whnf); first|refine IndepAnd (by kernel_rfl) ?_|refine ⟨rfl,?_⟩|refine And.intro (by first|decide|exact trivial|exact ⟨_,rfl,rfl⟩|exact ⟨rfl,trivial⟩|exact ⟨rfl,rfl,trivial⟩) ?_
  conv => whnf
  refine @bool_rec _ _ _ ?_ ?_ <;> intro h1
  · have h1 : t.name ≠ [] := of_decide_eq_true h1
    have hP2 : [Tm.letter t.kind] ++ (itoa' t.name.length ++ [58] ++ t.name) = Tm.letter t.kind :: Tm.nameText t.name := by simp [itoa', Lib.itoa, Tm.nameText, h1]
    have hP : (SV.p (.str ([Tm.letter t.kind] ++ (itoa' t.name.length ++ [58] ++ t.name)))) = sv (Tm.letter t.kind :: Tm.nameText t.name) := by rw [hP2]
    have hnn : (itoa' t.name.length).length + 1 + t.name.length = (Tm.nameText t.name).length := by have := congrArg List.length hP2; simp at this; omega
    repeat (conv => whnf); first|refine IndepAnd (by kernel_rfl) ?_|refine ⟨rfl,?_⟩|refine And.intro (by first|decide|exact trivial|exact ⟨_,rfl,rfl⟩|exact ⟨rfl,trivial⟩|exact ⟨rfl,rfl,trivial⟩) ?_
    conv => whnf
    refine ⟨_, CallVC.pr (itoa_ok true (t.name.length : Int) (by omega) (by omega)) rfl rfl, ?_⟩
    repeat (conv => whnf); first|refine IndepAnd (by kernel_rfl) ?_|refine ⟨rfl,?_⟩|refine And.intro (by first|decide|exact trivial|exact ⟨_,rfl,rfl⟩|exact ⟨rfl,trivial⟩|exact ⟨rfl,rfl,trivial⟩) ?_
    conv => whnf
    refine ⟨by show (itoa' t.name.length).length + 1 ≤ _; omega, ?_⟩
    repeat (conv => whnf); first|refine IndepAnd (by kernel_rfl) ?_|refine ⟨rfl,?_⟩|refine And.intro (by first|decide|exact trivial|exact ⟨_,rfl,rfl⟩|exact ⟨rfl,trivial⟩|exact ⟨rfl,rfl,trivial⟩) ?_
    conv => whnf
    refine ⟨by show (itoa' t.name.length ++ [58]).length + t.name.length ≤ _; rw [List.length_append]; show _ + 1 + _ ≤ _; omega, ?_⟩
    repeat (conv => whnf); first|refine IndepAnd (by kernel_rfl) ?_|refine ⟨rfl,?_⟩|refine And.intro (by first|decide|exact trivial|exact ⟨_,rfl,rfl⟩|exact ⟨rfl,trivial⟩|exact ⟨rfl,rfl,trivial⟩) ?_
    conv => whnf
    refine ⟨by show 1 + (itoa' t.name.length ++ [58] ++ t.name).length ≤ _; rw [List.length_append, List.length_append]; show 1 + (_ + 1 + _) ≤ _; omega, ?_⟩
    repeat (conv => whnf); first|refine IndepAnd (by kernel_rfl) ?_|refine ⟨rfl,?_⟩|refine And.intro (by first|decide|exact trivial|exact ⟨_,rfl,rfl⟩|exact ⟨rfl,trivial⟩|exact ⟨rfl,rfl,trivial⟩) ?_
    conv => whnf
    refine @bool_rec _ _ _ ?_ ?_ <;> intro h2
    · have h2 : t.kids = [] := hz.1 (of_decide_eq_true h2)
      repeat (conv => whnf); first|refine IndepAnd (by kernel_rfl) ?_|refine ⟨rfl,?_⟩|refine And.intro (by first|decide|exact trivial|exact ⟨_,rfl,rfl⟩|exact ⟨rfl,trivial⟩|exact ⟨rfl,rfl,trivial⟩) ?_
      conv => whnf
      refine @bool_rec _ _ _ ?_ ?_ <;> intro h3
      · have h3 : t.kind ≠ 3 := of_decide_eq_true h3
        repeat (conv => whnf); first|refine IndepAnd (by kernel_rfl) ?_|refine ⟨rfl,?_⟩|refine And.intro (by first|decide|exact trivial|exact ⟨_,rfl,rfl⟩|exact ⟨rfl,trivial⟩|exact ⟨rfl,rfl,trivial⟩) ?_
        conv => whnf
        exact LEP.of (congrArg PV.str (hP2.trans (hdone ⟨h2, h3⟩).symm))
      · have h3 : t.kind = 3 := by simpa using h3
        have hno : ¬ (t.kids = [] ∧ t.kind ≠ 3) := fun h => h.2 h3
        have hb2 := htx hno
        obtain ⟨hkl, hkt⟩ := texts_len t.kids
        repeat (conv => whnf); first|refine IndepAnd (by kernel_rfl) ?_|refine ⟨rfl,?_⟩|refine And.intro (by first|decide|exact trivial|exact ⟨_,rfl,rfl⟩|exact ⟨rfl,trivial⟩|exact ⟨rfl,rfl,trivial⟩) ?_
        conv => whnf
        refine ⟨Rd t.kids.length, fun i => S.of [(1, .ptr 1 0), (3, sv (Tm.letter t.kind :: Tm.nameText t.name)), (4, .slc 4), (36, lv t.kids), (37, iv ((tmvs t.kids).length : Int)), (38, iv (i.1 : Int))] [(1, .var true 24 (tv t)), (4, .row 9 1 (strL ((t.kids.take i.1).map Tm.text)))], fun i => t.kids.length - i.1, Rd.zero _, ?_, ?_⟩
        · refine Ge.of rfl ?_ ?_
          · repeat (conv => whnf); first | refine ⟨LE.of hP, ?_⟩ | refine ⟨LE.of rfl, ?_⟩
            trivial
          · repeat (conv => whnf); refine ⟨OLE.of rfl, ?_⟩
            trivial
        rintro ⟨i, hi⟩
        repeat (conv => whnf); first|refine IndepAnd (by kernel_rfl) ?_|refine ⟨rfl,?_⟩|refine And.intro (by first|decide|exact trivial|exact ⟨_,rfl,rfl⟩|exact ⟨rfl,trivial⟩|exact ⟨rfl,rfl,trivial⟩) ?_
        conv => whnf
        refine @bool_rec _ _ _ ?_ ?_ <;> intro h4
        · have hlt : i < t.kids.length := by have := of_decide_eq_true h4; rw [tmvs_length] at this; exact Int.ofNat_lt.1 this
          have hm := List.getElem_mem hlt
          repeat (conv => whnf); first|refine IndepAnd (by kernel_rfl) ?_|refine ⟨rfl,?_⟩|refine And.intro (by first|decide|exact trivial|exact ⟨_,rfl,rfl⟩|exact ⟨rfl,trivial⟩|exact ⟨rfl,rfl,trivial⟩) ?_
          conv => whnf
          refine ⟨Int.natCast_nonneg _, TV t.kids[i], tmvs_getN hlt, rfl, rfl, ?_⟩
          repeat (conv => whnf); first|refine IndepAnd (by kernel_rfl) ?_|refine ⟨rfl,?_⟩|refine And.intro (by first|decide|exact trivial|exact ⟨_,rfl,rfl⟩|exact ⟨rfl,trivial⟩|exact ⟨rfl,rfl,trivial⟩) ?_
          conv => whnf
          refine ⟨_, CallVC.pr (ih t.kids[i] hm (hf.kid hm) (hks _ hm) (by have := hkt _ hm; omega)) rfl rfl, ?_⟩
          repeat (conv => whnf); first|refine IndepAnd (by kernel_rfl) ?_|refine ⟨rfl,?_⟩|refine And.intro (by first|decide|exact trivial|exact ⟨_,rfl,rfl⟩|exact ⟨rfl,trivial⟩|exact ⟨rfl,rfl,trivial⟩) ?_
          conv => whnf
          refine ⟨hbd16 (by simp only [strL_length, List.length_map, List.length_take, List.length_cons, List.length_nil]; omega), ?_⟩
          repeat (conv => whnf); first|refine IndepAnd (by kernel_rfl) ?_|refine ⟨rfl,?_⟩|refine And.intro (by first|decide|exact trivial|exact ⟨_,rfl,rfl⟩|exact ⟨rfl,trivial⟩|exact ⟨rfl,rfl,trivial⟩) ?_
          conv => whnf
          refine ⟨_, wrapN (n := i + 1) rfl (by omega), ?_⟩
          repeat (conv => whnf); first|refine IndepAnd (by kernel_rfl) ?_|refine ⟨rfl,?_⟩|refine And.intro (by first|decide|exact trivial|exact ⟨_,rfl,rfl⟩|exact ⟨rfl,trivial⟩|exact ⟨rfl,rfl,trivial⟩) ?_
          conv => whnf
          refine ⟨⟨i + 1, hlt⟩, ?_, by show t.kids.length - (i + 1) < t.kids.length - i; omega⟩
          refine Ge.of rfl ?_ ?_
          · repeat (conv => whnf); refine ⟨LE.of rfl, ?_⟩
            trivial
          · conv => whnf
            refine ⟨OLE.of rfl, ?_⟩
            conv => whnf
            refine ⟨OLE.of (congrArg _ (strL_take hlt)), ?_⟩
            trivial
        · have hge : t.kids.take i = t.kids := List.take_of_length_le (by have := of_decide_eq_false h4; rw [tmvs_length] at this; have h5 : ¬ ((i : Int) < t.kids.length) := this; omega)
          have hj := join_ok' true (t.kids.map Tm.text) [44] (by rw [List.length_map]; omega) (by rw [texts_join]; omega)
          rw [texts_join] at hj
          rw [← hge] at hj
          repeat (conv => whnf); first|refine IndepAnd (by kernel_rfl) ?_|refine ⟨rfl,?_⟩|refine And.intro (by first|decide|exact trivial|exact ⟨_,rfl,rfl⟩|exact ⟨rfl,trivial⟩|exact ⟨rfl,rfl,trivial⟩) ?_
          conv => whnf
          refine ⟨by show (Tm.letter t.kind :: Tm.nameText t.name).length + 1 ≤ _; rw [List.length_cons]; omega, ?_⟩
          repeat (conv => whnf); first|refine IndepAnd (by kernel_rfl) ?_|refine ⟨rfl,?_⟩|refine And.intro (by first|decide|exact trivial|exact ⟨_,rfl,rfl⟩|exact ⟨rfl,trivial⟩|exact ⟨rfl,rfl,trivial⟩) ?_
          conv => whnf
          refine ⟨_, CallVC.pr hj rfl rfl, ?_⟩
          rw [hge]
          repeat (conv => whnf); first|refine IndepAnd (by kernel_rfl) ?_|refine ⟨rfl,?_⟩|refine And.intro (by first|decide|exact trivial|exact ⟨_,rfl,rfl⟩|exact ⟨rfl,trivial⟩|exact ⟨rfl,rfl,trivial⟩) ?_
          conv => whnf
          refine ⟨by show (Tm.letter t.kind :: Tm.nameText t.name ++ [40]).length + _ ≤ _; rw [List.length_append, List.length_cons]; show _ + 1 + 1 + _ ≤ _; omega, ?_⟩
          repeat (conv => whnf); first|refine IndepAnd (by kernel_rfl) ?_|refine ⟨rfl,?_⟩|refine And.intro (by first|decide|exact trivial|exact ⟨_,rfl,rfl⟩|exact ⟨rfl,trivial⟩|exact ⟨rfl,rfl,trivial⟩) ?_
          conv => whnf
          refine ⟨by show (Tm.letter t.kind :: Tm.nameText t.name ++ [40] ++ Tm.texts t.kids).length + 1 ≤ _; rw [List.length_append, List.length_append, List.length_cons]; show _ + 1 + 1 + _ + 1 ≤ _; omega, ?_⟩
          repeat (conv => whnf); first|refine IndepAnd (by kernel_rfl) ?_|refine ⟨rfl,?_⟩|refine And.intro (by first|decide|exact trivial|exact ⟨_,rfl,rfl⟩|exact ⟨rfl,trivial⟩|exact ⟨rfl,rfl,trivial⟩) ?_
          conv => whnf
          exact LEP.of (congrArg PV.str (hgo hno).symm)
    · have h2 : ¬ t.kids = [] := fun e => of_decide_eq_false h2 (hz.2 e)
      have hno : ¬ (t.kids = [] ∧ t.kind ≠ 3) := fun h => h2 h.1
      have hb2 := htx hno
      obtain ⟨hkl, hkt⟩ := texts_len t.kids
      repeat (conv => whnf); first|refine IndepAnd (by kernel_rfl) ?_|refine ⟨rfl,?_⟩|refine And.intro (by first|decide|exact trivial|exact ⟨_,rfl,rfl⟩|exact ⟨rfl,trivial⟩|exact ⟨rfl,rfl,trivial⟩) ?_
      conv => whnf
      refine ⟨Rd t.kids.length, fun i => S.of [(1, .ptr 1 0), (3, sv (Tm.letter t.kind :: Tm.nameText t.name)), (4, .slc 4), (36, lv t.kids), (37, iv ((tmvs t.kids).length : Int)), (38, iv (i.1 : Int))] [(1, .var true 24 (tv t)), (4, .row 9 1 (strL ((t.kids.take i.1).map Tm.text)))], fun i => t.kids.length - i.1, Rd.zero _, ?_, ?_⟩
      · refine Ge.of rfl ?_ ?_
        · repeat (conv => whnf); first | refine ⟨LE.of hP, ?_⟩ | refine ⟨LE.of rfl, ?_⟩
          trivial
        · repeat (conv => whnf); refine ⟨OLE.of rfl, ?_⟩
          trivial
      rintro ⟨i, hi⟩
      repeat (conv => whnf); first|refine IndepAnd (by kernel_rfl) ?_|refine ⟨rfl,?_⟩|refine And.intro (by first|decide|exact trivial|exact ⟨_,rfl,rfl⟩|exact ⟨rfl,trivial⟩|exact ⟨rfl,rfl,trivial⟩) ?_
      conv => whnf
      refine @bool_rec _ _ _ ?_ ?_ <;> intro h4
      · have hlt : i < t.kids.length := by have := of_decide_eq_true h4; rw [tmvs_length] at this; exact Int.ofNat_lt.1 this
        have hm := List.getElem_mem hlt
        repeat (conv => whnf); first|refine IndepAnd (by kernel_rfl) ?_|refine ⟨rfl,?_⟩|refine And.intro (by first|decide|exact trivial|exact ⟨_,rfl,rfl⟩|exact ⟨rfl,trivial⟩|exact ⟨rfl,rfl,trivial⟩) ?_
        conv => whnf
        refine ⟨Int.natCast_nonneg _, TV t.kids[i], tmvs_getN hlt, rfl, rfl, ?_⟩
        repeat (conv => whnf); first|refine IndepAnd (by kernel_rfl) ?_|refine ⟨rfl,?_⟩|refine And.intro (by first|decide|exact trivial|exact ⟨_,rfl,rfl⟩|exact ⟨rfl,trivial⟩|exact ⟨rfl,rfl,trivial⟩) ?_
        conv => whnf
        refine ⟨_, CallVC.pr (ih t.kids[i] hm (hf.kid hm) (hks _ hm) (by have := hkt _ hm; omega)) rfl rfl, ?_⟩
        repeat (conv => whnf); first|refine IndepAnd (by kernel_rfl) ?_|refine ⟨rfl,?_⟩|refine And.intro (by first|decide|exact trivial|exact ⟨_,rfl,rfl⟩|exact ⟨rfl,trivial⟩|exact ⟨rfl,rfl,trivial⟩) ?_
        conv => whnf
        refine ⟨hbd16 (by simp only [strL_length, List.length_map, List.length_take, List.length_cons, List.length_nil]; omega), ?_⟩
        repeat (conv => whnf); first|refine IndepAnd (by kernel_rfl) ?_|refine ⟨rfl,?_⟩|refine And.intro (by first|decide|exact trivial|exact ⟨_,rfl,rfl⟩|exact ⟨rfl,trivial⟩|exact ⟨rfl,rfl,trivial⟩) ?_
        conv => whnf
        refine ⟨_, wrapN (n := i + 1) rfl (by omega), ?_⟩
        repeat (conv => whnf); first|refine IndepAnd (by kernel_rfl) ?_|refine ⟨rfl,?_⟩|refine And.intro (by first|decide|exact trivial|exact ⟨_,rfl,rfl⟩|exact ⟨rfl,trivial⟩|exact ⟨rfl,rfl,trivial⟩) ?_
        conv => whnf
        refine ⟨⟨i + 1, hlt⟩, ?_, by show t.kids.length - (i + 1) < t.kids.length - i; omega⟩
        refine Ge.of rfl ?_ ?_
        · repeat (conv => whnf); refine ⟨LE.of rfl, ?_⟩
          trivial
        · conv => whnf
          refine ⟨OLE.of rfl, ?_⟩
          conv => whnf
          refine ⟨OLE.of (congrArg _ (strL_take hlt)), ?_⟩
          trivial
      · have hge : t.kids.take i = t.kids := List.take_of_length_le (by have := of_decide_eq_false h4; rw [tmvs_length] at this; have h5 : ¬ ((i : Int) < t.kids.length) := this; omega)
        have hj := join_ok' true (t.kids.map Tm.text) [44] (by rw [List.length_map]; omega) (by rw [texts_join]; omega)
        rw [texts_join] at hj
        rw [← hge] at hj
        repeat (conv => whnf); first|refine IndepAnd (by kernel_rfl) ?_|refine ⟨rfl,?_⟩|refine And.intro (by first|decide|exact trivial|exact ⟨_,rfl,rfl⟩|exact ⟨rfl,trivial⟩|exact ⟨rfl,rfl,trivial⟩) ?_
        conv => whnf
        refine ⟨by show (Tm.letter t.kind :: Tm.nameText t.name).length + 1 ≤ _; rw [List.length_cons]; omega, ?_⟩
        repeat (conv => whnf); first|refine IndepAnd (by kernel_rfl) ?_|refine ⟨rfl,?_⟩|refine And.intro (by first|decide|exact trivial|exact ⟨_,rfl,rfl⟩|exact ⟨rfl,trivial⟩|exact ⟨rfl,rfl,trivial⟩) ?_
        conv => whnf
        refine ⟨_, CallVC.pr hj rfl rfl, ?_⟩
        rw [hge]
        repeat (conv => whnf); first|refine IndepAnd (by kernel_rfl) ?_|refine ⟨rfl,?_⟩|refine And.intro (by first|decide|exact trivial|exact ⟨_,rfl,rfl⟩|exact ⟨rfl,trivial⟩|exact ⟨rfl,rfl,trivial⟩) ?_
        conv => whnf
        refine ⟨by show (Tm.letter t.kind :: Tm.nameText t.name ++ [40]).length + _ ≤ _; rw [List.length_append, List.length_cons]; show _ + 1 + 1 + _ ≤ _; omega, ?_⟩
        repeat (conv => whnf); first|refine IndepAnd (by kernel_rfl) ?_|refine ⟨rfl,?_⟩|refine And.intro (by first|decide|exact trivial|exact ⟨_,rfl,rfl⟩|exact ⟨rfl,trivial⟩|exact ⟨rfl,rfl,trivial⟩) ?_
        conv => whnf
        refine ⟨by show (Tm.letter t.kind :: Tm.nameText t.name ++ [40] ++ Tm.texts t.kids).length + 1 ≤ _; rw [List.length_append, List.length_append, List.length_cons]; show _ + 1 + 1 + _ + 1 ≤ _; omega, ?_⟩
        repeat (conv => whnf); first|refine IndepAnd (by kernel_rfl) ?_|refine ⟨rfl,?_⟩|refine And.intro (by first|decide|exact trivial|exact ⟨_,rfl,rfl⟩|exact ⟨rfl,trivial⟩|exact ⟨rfl,rfl,trivial⟩) ?_
        conv => whnf
        exact LEP.of (congrArg PV.str (hgo hno).symm)
  · have h1 : t.name = [] := by simpa using h1
    have hP2 : [Tm.letter t.kind] = Tm.letter t.kind :: Tm.nameText t.name := by simp [Tm.nameText, h1]
    have hP : (SV.p (.str [Tm.letter t.kind])) = sv (Tm.letter t.kind :: Tm.nameText t.name) := by rw [hP2]
    repeat (conv => whnf); first|refine IndepAnd (by kernel_rfl) ?_|refine ⟨rfl,?_⟩|refine And.intro (by first|decide|exact trivial|exact ⟨_,rfl,rfl⟩|exact ⟨rfl,trivial⟩|exact ⟨rfl,rfl,trivial⟩) ?_
    conv => whnf
    refine @bool_rec _ _ _ ?_ ?_ <;> intro h2
    · have h2 : t.kids = [] := hz.1 (of_decide_eq_true h2)
      repeat (conv => whnf); first|refine IndepAnd (by kernel_rfl) ?_|refine ⟨rfl,?_⟩|refine And.intro (by first|decide|exact trivial|exact ⟨_,rfl,rfl⟩|exact ⟨rfl,trivial⟩|exact ⟨rfl,rfl,trivial⟩) ?_
      conv => whnf
      refine @bool_rec _ _ _ ?_ ?_ <;> intro h3
      · have h3 : t.kind ≠ 3 := of_decide_eq_true h3
        repeat (conv => whnf); first|refine IndepAnd (by kernel_rfl) ?_|refine ⟨rfl,?_⟩|refine And.intro (by first|decide|exact trivial|exact ⟨_,rfl,rfl⟩|exact ⟨rfl,trivial⟩|exact ⟨rfl,rfl,trivial⟩) ?_
        conv => whnf
        exact LEP.of (congrArg PV.str (hP2.trans (hdone ⟨h2, h3⟩).symm))
      · have h3 : t.kind = 3 := by simpa using h3
        have hno : ¬ (t.kids = [] ∧ t.kind ≠ 3) := fun h => h.2 h3
        have hb2 := htx hno
        obtain ⟨hkl, hkt⟩ := texts_len t.kids
        repeat (conv => whnf); first|refine IndepAnd (by kernel_rfl) ?_|refine ⟨rfl,?_⟩|refine And.intro (by first|decide|exact trivial|exact ⟨_,rfl,rfl⟩|exact ⟨rfl,trivial⟩|exact ⟨rfl,rfl,trivial⟩) ?_
        conv => whnf
        refine ⟨Rd t.kids.length, fun i => S.of [(1, .ptr 1 0), (3, sv (Tm.letter t.kind :: Tm.nameText t.name)), (4, .slc 4), (36, lv t.kids), (37, iv ((tmvs t.kids).length : Int)), (38, iv (i.1 : Int))] [(1, .var true 24 (tv t)), (4, .row 9 1 (strL ((t.kids.take i.1).map Tm.text)))], fun i => t.kids.length - i.1, Rd.zero _, ?_, ?_⟩
        · refine Ge.of rfl ?_ ?_
          · repeat (conv => whnf); first | refine ⟨LE.of hP, ?_⟩ | refine ⟨LE.of rfl, ?_⟩
            trivial
          · repeat (conv => whnf); refine ⟨OLE.of rfl, ?_⟩
            trivial
        rintro ⟨i, hi⟩
        repeat (conv => whnf); first|refine IndepAnd (by kernel_rfl) ?_|refine ⟨rfl,?_⟩|refine And.intro (by first|decide|exact trivial|exact ⟨_,rfl,rfl⟩|exact ⟨rfl,trivial⟩|exact ⟨rfl,rfl,trivial⟩) ?_
        conv => whnf
        refine @bool_rec _ _ _ ?_ ?_ <;> intro h4
        · have hlt : i < t.kids.length := by have := of_decide_eq_true h4; rw [tmvs_length] at this; exact Int.ofNat_lt.1 this
          have hm := List.getElem_mem hlt
          repeat (conv => whnf); first|refine IndepAnd (by kernel_rfl) ?_|refine ⟨rfl,?_⟩|refine And.intro (by first|decide|exact trivial|exact ⟨_,rfl,rfl⟩|exact ⟨rfl,trivial⟩|exact ⟨rfl,rfl,trivial⟩) ?_
          conv => whnf
          refine ⟨Int.natCast_nonneg _, TV t.kids[i], tmvs_getN hlt, rfl, rfl, ?_⟩
          repeat (conv => whnf); first|refine IndepAnd (by kernel_rfl) ?_|refine ⟨rfl,?_⟩|refine And.intro (by first|decide|exact trivial|exact ⟨_,rfl,rfl⟩|exact ⟨rfl,trivial⟩|exact ⟨rfl,rfl,trivial⟩) ?_
          conv => whnf
          refine ⟨_, CallVC.pr (ih t.kids[i] hm (hf.kid hm) (hks _ hm) (by have := hkt _ hm; omega)) rfl rfl, ?_⟩
          repeat (conv => whnf); first|refine IndepAnd (by kernel_rfl) ?_|refine ⟨rfl,?_⟩|refine And.intro (by first|decide|exact trivial|exact ⟨_,rfl,rfl⟩|exact ⟨rfl,trivial⟩|exact ⟨rfl,rfl,trivial⟩) ?_
          conv => whnf
          refine ⟨hbd16 (by simp only [strL_length, List.length_map, List.length_take, List.length_cons, List.length_nil]; omega), ?_⟩
          repeat (conv => whnf); first|refine IndepAnd (by kernel_rfl) ?_|refine ⟨rfl,?_⟩|refine And.intro (by first|decide|exact trivial|exact ⟨_,rfl,rfl⟩|exact ⟨rfl,trivial⟩|exact ⟨rfl,rfl,trivial⟩) ?_
          conv => whnf
          refine ⟨_, wrapN (n := i + 1) rfl (by omega), ?_⟩
          repeat (conv => whnf); first|refine IndepAnd (by kernel_rfl) ?_|refine ⟨rfl,?_⟩|refine And.intro (by first|decide|exact trivial|exact ⟨_,rfl,rfl⟩|exact ⟨rfl,trivial⟩|exact ⟨rfl,rfl,trivial⟩) ?_
          conv => whnf
          refine ⟨⟨i + 1, hlt⟩, ?_, by show t.kids.length - (i + 1) < t.kids.length - i; omega⟩
          refine Ge.of rfl ?_ ?_
          · repeat (conv => whnf); refine ⟨LE.of rfl, ?_⟩
            trivial
          · conv => whnf
            refine ⟨OLE.of rfl, ?_⟩
            conv => whnf
            refine ⟨OLE.of (congrArg _ (strL_take hlt)), ?_⟩
            trivial
        · have hge : t.kids.take i = t.kids := List.take_of_length_le (by have := of_decide_eq_false h4; rw [tmvs_length] at this; have h5 : ¬ ((i : Int) < t.kids.length) := this; omega)
          have hj := join_ok' true (t.kids.map Tm.text) [44] (by rw [List.length_map]; omega) (by rw [texts_join]; omega)
          rw [texts_join] at hj
          rw [← hge] at hj
          repeat (conv => whnf); first|refine IndepAnd (by kernel_rfl) ?_|refine ⟨rfl,?_⟩|refine And.intro (by first|decide|exact trivial|exact ⟨_,rfl,rfl⟩|exact ⟨rfl,trivial⟩|exact ⟨rfl,rfl,trivial⟩) ?_
          conv => whnf
          refine ⟨by show (Tm.letter t.kind :: Tm.nameText t.name).length + 1 ≤ _; rw [List.length_cons]; omega, ?_⟩
          repeat (conv => whnf); first|refine IndepAnd (by kernel_rfl) ?_|refine ⟨rfl,?_⟩|refine And.intro (by first|decide|exact trivial|exact ⟨_,rfl,rfl⟩|exact ⟨rfl,trivial⟩|exact ⟨rfl,rfl,trivial⟩) ?_
          conv => whnf
          refine ⟨_, CallVC.pr hj rfl rfl, ?_⟩
          rw [hge]
          repeat (conv => whnf); first|refine IndepAnd (by kernel_rfl) ?_|refine ⟨rfl,?_⟩|refine And.intro (by first|decide|exact trivial|exact ⟨_,rfl,rfl⟩|exact ⟨rfl,trivial⟩|exact ⟨rfl,rfl,trivial⟩) ?_
          conv => whnf
          refine ⟨by show (Tm.letter t.kind :: Tm.nameText t.name ++ [40]).length + _ ≤ _; rw [List.length_append, List.length_cons]; show _ + 1 + 1 + _ ≤ _; omega, ?_⟩
          repeat (conv => whnf); first|refine IndepAnd (by kernel_rfl) ?_|refine ⟨rfl,?_⟩|refine And.intro (by first|decide|exact trivial|exact ⟨_,rfl,rfl⟩|exact ⟨rfl,trivial⟩|exact ⟨rfl,rfl,trivial⟩) ?_
          conv => whnf
          refine ⟨by show (Tm.letter t.kind :: Tm.nameText t.name ++ [40] ++ Tm.texts t.kids).length + 1 ≤ _; rw [List.length_append, List.length_append, List.length_cons]; show _ + 1 + 1 + _ + 1 ≤ _; omega, ?_⟩
          repeat (conv => whnf); first|refine IndepAnd (by kernel_rfl) ?_|refine ⟨rfl,?_⟩|refine And.intro (by first|decide|exact trivial|exact ⟨_,rfl,rfl⟩|exact ⟨rfl,trivial⟩|exact ⟨rfl,rfl,trivial⟩) ?_
          conv => whnf
          exact LEP.of (congrArg PV.str (hgo hno).symm)
    · have h2 : ¬ t.kids = [] := fun e => of_decide_eq_false h2 (hz.2 e)
      have hno : ¬ (t.kids = [] ∧ t.kind ≠ 3) := fun h => h2 h.1
      have hb2 := htx hno
      obtain ⟨hkl, hkt⟩ := texts_len t.kids
      repeat (conv => whnf); first|refine IndepAnd (by kernel_rfl) ?_|refine ⟨rfl,?_⟩|refine And.intro (by first|decide|exact trivial|exact ⟨_,rfl,rfl⟩|exact ⟨rfl,trivial⟩|exact ⟨rfl,rfl,trivial⟩) ?_
      conv => whnf
      refine ⟨Rd t.kids.length, fun i => S.of [(1, .ptr 1 0), (3, sv (Tm.letter t.kind :: Tm.nameText t.name)), (4, .slc 4), (36, lv t.kids), (37, iv ((tmvs t.kids).length : Int)), (38, iv (i.1 : Int))] [(1, .var true 24 (tv t)), (4, .row 9 1 (strL ((t.kids.take i.1).map Tm.text)))], fun i => t.kids.length - i.1, Rd.zero _, ?_, ?_⟩
      · refine Ge.of rfl ?_ ?_
        · repeat (conv => whnf); first | refine ⟨LE.of hP, ?_⟩ | refine ⟨LE.of rfl, ?_⟩
          trivial
        · repeat (conv => whnf); refine ⟨OLE.of rfl, ?_⟩
          trivial
      rintro ⟨i, hi⟩
      repeat (conv => whnf); first|refine IndepAnd (by kernel_rfl) ?_|refine ⟨rfl,?_⟩|refine And.intro (by first|decide|exact trivial|exact ⟨_,rfl,rfl⟩|exact ⟨rfl,trivial⟩|exact ⟨rfl,rfl,trivial⟩) ?_
      conv => whnf
      refine @bool_rec _ _ _ ?_ ?_ <;> intro h4
      · have hlt : i < t.kids.length := by have := of_decide_eq_true h4; rw [tmvs_length] at this; exact Int.ofNat_lt.1 this
        have hm := List.getElem_mem hlt
        repeat (conv => whnf); first|refine IndepAnd (by kernel_rfl) ?_|refine ⟨rfl,?_⟩|refine And.intro (by first|decide|exact trivial|exact ⟨_,rfl,rfl⟩|exact ⟨rfl,trivial⟩|exact ⟨rfl,rfl,trivial⟩) ?_
        conv => whnf
        refine ⟨Int.natCast_nonneg _, TV t.kids[i], tmvs_getN hlt, rfl, rfl, ?_⟩
        repeat (conv => whnf); first|refine IndepAnd (by kernel_rfl) ?_|refine ⟨rfl,?_⟩|refine And.intro (by first|decide|exact trivial|exact ⟨_,rfl,rfl⟩|exact ⟨rfl,trivial⟩|exact ⟨rfl,rfl,trivial⟩) ?_
        conv => whnf
        refine ⟨_, CallVC.pr (ih t.kids[i] hm (hf.kid hm) (hks _ hm) (by have := hkt _ hm; omega)) rfl rfl, ?_⟩
        repeat (conv => whnf); first|refine IndepAnd (by kernel_rfl) ?_|refine ⟨rfl,?_⟩|refine And.intro (by first|decide|exact trivial|exact ⟨_,rfl,rfl⟩|exact ⟨rfl,trivial⟩|exact ⟨rfl,rfl,trivial⟩) ?_
        conv => whnf
        refine ⟨hbd16 (by simp only [strL_length, List.length_map, List.length_take, List.length_cons, List.length_nil]; omega), ?_⟩
        repeat (conv => whnf); first|refine IndepAnd (by kernel_rfl) ?_|refine ⟨rfl,?_⟩|refine And.intro (by first|decide|exact trivial|exact ⟨_,rfl,rfl⟩|exact ⟨rfl,trivial⟩|exact ⟨rfl,rfl,trivial⟩) ?_
        conv => whnf
        refine ⟨_, wrapN (n := i + 1) rfl (by omega), ?_⟩
        repeat (conv => whnf); first|refine IndepAnd (by kernel_rfl) ?_|refine ⟨rfl,?_⟩|refine And.intro (by first|decide|exact trivial|exact ⟨_,rfl,rfl⟩|exact ⟨rfl,trivial⟩|exact ⟨rfl,rfl,trivial⟩) ?_
        conv => whnf
        refine ⟨⟨i + 1, hlt⟩, ?_, by show t.kids.length - (i + 1) < t.kids.length - i; omega⟩
        refine Ge.of rfl ?_ ?_
        · repeat (conv => whnf); refine ⟨LE.of rfl, ?_⟩
          trivial
        · conv => whnf
          refine ⟨OLE.of rfl, ?_⟩
          conv => whnf
          refine ⟨OLE.of (congrArg _ (strL_take hlt)), ?_⟩
          trivial
      · have hge : t.kids.take i = t.kids := List.take_of_length_le (by have := of_decide_eq_false h4; rw [tmvs_length] at this; have h5 : ¬ ((i : Int) < t.kids.length) := this; omega)
        have hj := join_ok' true (t.kids.map Tm.text) [44] (by rw [List.length_map]; omega) (by rw [texts_join]; omega)
        rw [texts_join] at hj
        rw [← hge] at hj
        repeat (conv => whnf); first|refine IndepAnd (by kernel_rfl) ?_|refine ⟨rfl,?_⟩|refine And.intro (by first|decide|exact trivial|exact ⟨_,rfl,rfl⟩|exact ⟨rfl,trivial⟩|exact ⟨rfl,rfl,trivial⟩) ?_
        conv => whnf
        refine ⟨by show (Tm.letter t.kind :: Tm.nameText t.name).length + 1 ≤ _; rw [List.length_cons]; omega, ?_⟩
        repeat (conv => whnf); first|refine IndepAnd (by kernel_rfl) ?_|refine ⟨rfl,?_⟩|refine And.intro (by first|decide|exact trivial|exact ⟨_,rfl,rfl⟩|exact ⟨rfl,trivial⟩|exact ⟨rfl,rfl,trivial⟩) ?_
        conv => whnf
        refine ⟨_, CallVC.pr hj rfl rfl, ?_⟩
        rw [hge]
        repeat (conv => whnf); first|refine IndepAnd (by kernel_rfl) ?_|refine ⟨rfl,?_⟩|refine And.intro (by first|decide|exact trivial|exact ⟨_,rfl,rfl⟩|exact ⟨rfl,trivial⟩|exact ⟨rfl,rfl,trivial⟩) ?_
        conv => whnf
        refine ⟨by show (Tm.letter t.kind :: Tm.nameText t.name ++ [40]).length + _ ≤ _; rw [List.length_append, List.length_cons]; show _ + 1 + 1 + _ ≤ _; omega, ?_⟩
        repeat (conv => whnf); first|refine IndepAnd (by kernel_rfl) ?_|refine ⟨rfl,?_⟩|refine And.intro (by first|decide|exact trivial|exact ⟨_,rfl,rfl⟩|exact ⟨rfl,trivial⟩|exact ⟨rfl,rfl,trivial⟩) ?_
        conv => whnf
        refine ⟨by show (Tm.letter t.kind :: Tm.nameText t.name ++ [40] ++ Tm.texts t.kids).length + 1 ≤ _; rw [List.length_append, List.length_append, List.length_cons]; show _ + 1 + 1 + _ + 1 ≤ _; omega, ?_⟩
        repeat (conv => whnf); first|refine IndepAnd (by kernel_rfl) ?_|refine ⟨rfl,?_⟩|refine And.intro (by first|decide|exact trivial|exact ⟨_,rfl,rfl⟩|exact ⟨rfl,trivial⟩|exact ⟨rfl,rfl,trivial⟩) ?_
        conv => whnf
        exact LEP.of (congrArg PV.str (hgo hno).symm)
end Go.Sl
