/- The document's answer for layer 8 in plain theory: which terms are made, found out round by round. -/
import Derived.Test.YtpeabfflebgamaaDoorQg
import Derived.Test.YtpeabfflebgamaaDoorUa
set_option linter.unusedVariables false
set_option linter.unusedSimpArgs false
namespace Go.Sl
open Go Go.Vc Go.Proofs Go.RowKit

/-! A frame, as it counts. -/
def frS (out : List Tm) (v : Tm) : List Tm := if rightT (canT v) = true then withT out (canT v) else out
def frR (l : List Tm) : List Tm := l.foldl frS []
theorem right_can {v : Tm} : rightT (canT v) = true ↔ txtT (canT v) ≠ [] := ⟨fun h => (gd_right h).1, fun h => right_gd ⟨h, can_can v⟩⟩
theorem adds_fr : ∀ (m : List Tm) (k : Kn), k.s = k.l.map txtT → (∀ t ∈ k.l, txtT t ≠ []) → (m.foldl addT k).l = m.foldl frS k.l
  | [], k, _, _ => rfl
  | v :: m, k, hs, hn => by
    rw [List.foldl_cons, List.foldl_cons]
    have e : (addT k v).l = frS k.l v ∧ (addT k v).s = (addT k v).l.map txtT ∧ ∀ t ∈ (addT k v).l, txtT t ≠ [] := by
      unfold addT frS withT
      by_cases h1 : txtT (canT v) = []
      · rw [if_pos (.inl h1), if_neg (fun h => right_can.1 h h1)]
        exact ⟨rfl, hs, hn⟩
      · rw [if_pos (right_can.2 h1)]
        have hm := mem_txt hn h1
        by_cases h2 : canT v ∈ k.l
        · rw [if_pos (.inr (by rw [hs]; exact hm.2 h2)), if_pos h2]
          exact ⟨rfl, hs, hn⟩
        · rw [if_neg (by rw [hs]; exact fun h => h.elim h1 fun h => h2 (hm.1 h)), if_neg h2]
          refine ⟨rfl, by simp [hs], fun t ht => ?_⟩
          rcases List.mem_append.1 ht with ht | ht
          · exact hn t ht
          · rw [List.mem_singleton.1 ht]; exact h1
    rw [adds_fr m _ e.2.1 e.2.2, e.1]
theorem frR_of (l : List Tm) : frR l = (ofT l).l := (adds_fr l ⟨[], [], []⟩ rfl (fun t h => by cases h)).symm
theorem frR_take {l : List Tm} {i : Nat} (h : i < l.length) : frR (l.take (i + 1)) = frS (frR (l.take i)) l[i] := by
  rw [List.take_succ_eq_append_getElem h]
  unfold frR
  rw [List.foldl_append]
  rfl
theorem frS_gd {out : List Tm} {v : Tm} (h : gdT v) : frS out v = withT out v := by
  unfold frS
  rw [h.2, if_pos (right_gd h)]
theorem adds_with (k : Kn) (hs : k.s = k.l.map txtT) (hn : ∀ t ∈ k.l, txtT t ≠ []) (m : List Tm) (hm : ∀ t ∈ m, gdT t) : (m.foldl addT k).l = m.foldl withT k.l := by
  rw [adds_fr m k hs hn]
  generalize k.l = out
  induction m generalizing out with
  | nil => rfl
  | cons v m ih =>
    rw [List.foldl_cons, List.foldl_cons, frS_gd (hm v (List.mem_cons_self ..))]
    exact ih (fun t ht => hm t (List.mem_cons_of_mem _ ht)) _
theorem frR_gd {l : List Tm} {t : Tm} (h : t ∈ frR l) : gdT t := by rw [frR_of, ofT_in] at h; exact h.2
theorem frR_len (l : List Tm) : (frR l).length ≤ l.length := by
  rw [frR_of]
  have := foldl_add_len l ⟨[], [], []⟩
  simpa [ofT] using this
theorem frR_mk {l : List Tm} {t : Tm} : Mk (· ∈ frR l) t ↔ Mk (Fr l) t :=
  Mk.congr fun u hg => by rw [frR_of, ofT_in]; exact ⟨fun h => h.1, fun h => ⟨h, hg⟩⟩
theorem frR_src {l : List Tm} {t : Tm} (h : t ∈ frR l) : ∃ v ∈ l, canT v = t := by
  rw [frR_of, ofT_in] at h
  exact h.1

/-! What is asked. -/
/-- The points of a share's exponents, to a list. -/
def shP (acc : List Tm) (t : Tm) : List Tm :=
  if t.kind = 9 then (match t.kids with | [x, y] => withT (withT acc (pubT x)) (pubT y) | _ => acc) else acc
def todoR (g : Tm) : List Tm := (subR g []).foldl shP (subR g [])
theorem shP_mem {acc : List Tm} {t u : Tm} : u ∈ shP acc t ↔ u ∈ acc ∨ (t.kind = 9 ∧ ∃ x y, t.kids = [x, y] ∧ (u = pubT x ∨ u = pubT y)) := by
  unfold shP
  by_cases h : t.kind = 9
  · rw [if_pos h]
    split
    · rename_i x y e
      rw [mem_with, mem_with, or_assoc]
      refine or_congr_right ⟨fun h' => ⟨h, x, y, e, h'⟩, ?_⟩
      rintro ⟨_, x', y', e', h'⟩
      rw [e] at e'
      cases e'
      exact h'
    · rename_i hn
      refine ⟨.inl, ?_⟩
      rintro (h' | ⟨_, x, y, e, _⟩)
      · exact h'
      · exact absurd e (hn x y)
  · rw [if_neg h]
    exact ⟨.inl, fun h' => h'.elim id fun h' => absurd h'.1 h⟩
theorem shPs_mem {u : Tm} : ∀ (m acc : List Tm), u ∈ m.foldl shP acc ↔ u ∈ acc ∨ ∃ t ∈ m, t.kind = 9 ∧ ∃ x y, t.kids = [x, y] ∧ (u = pubT x ∨ u = pubT y)
  | [], acc => by simp
  | t :: m, acc => by
    rw [List.foldl_cons, shPs_mem m, shP_mem, or_assoc]
    refine or_congr_right ⟨?_, ?_⟩
    · rintro (h | ⟨v, hv, h⟩)
      · exact ⟨t, List.mem_cons_self .., h⟩
      · exact ⟨v, List.mem_cons_of_mem _ hv, h⟩
    · rintro ⟨v, hv, h⟩
      rcases List.mem_cons.1 hv with rfl | hv
      · exact .inl h
      · exact .inr ⟨v, hv, h⟩
theorem todo_mem {g u : Tm} : u ∈ todoR g ↔ u ∈ inT g ∨ ∃ t ∈ inT g, t.kind = 9 ∧ ∃ x y, t.kids = [x, y] ∧ (u = pubT x ∨ u = pubT y) := by
  unfold todoR
  rw [shPs_mem]
  have h : ∀ v, v ∈ subR g [] ↔ v ∈ inT g := fun v => by rw [mem_subR]; simp
  rw [h]
  refine or_congr_right ⟨?_, ?_⟩
  · rintro ⟨t, ht, h'⟩; exact ⟨t, (h t).1 ht, h'⟩
  · rintro ⟨t, ht, h'⟩; exact ⟨t, (h t).2 ht, h'⟩
theorem in_gd {g : Tm} (hg : gdT g) : ∀ u ∈ inT g, gdT u := by
  revert hg
  induction g using Tm.indk with
  | h t ih =>
  intro hg u hu
  rw [inT_eq] at hu
  rcases List.mem_cons.1 hu with rfl | hu
  · exact hg
  · obtain ⟨w, hw, hu⟩ := inTs_of hu
    exact ih w hw (gd_kid hg hw) u hu
theorem todo_gd {g : Tm} (hg : gdT g) {u : Tm} (h : u ∈ todoR g) : gdT u := by
  rcases todo_mem.1 h with h | ⟨t, ht, _, x, y, e, h | h⟩
  · exact in_gd hg u h
  · rw [h]; exact gd_pub (in_gd hg t ht) (by rw [e]; simp)
  · rw [h]; exact gd_pub (in_gd hg t ht) (by rw [e]; simp)
theorem todo_kid {g t u : Tm} (h : t ∈ todoR g) (hu : u ∈ t.kids) : u ∈ todoR g := by
  refine todo_mem.2 (.inl ?_)
  rcases todo_mem.1 h with h | ⟨v, hv, _, x, y, e, h | h⟩
  · exact inT_kid h hu
  · rw [h] at hu
    have hu : u = x := by simpa [pubT, Tm.kids] using hu
    rw [hu]; exact inT_kid hv (by rw [e]; simp)
  · rw [h] at hu
    have hu : u = y := by simpa [pubT, Tm.kids] using hu
    rw [hu]; exact inT_kid hv (by rw [e]; simp)
theorem todo_pub {g t x y : Tm} (h : t ∈ todoR g) (k : t.kind = 9) (e : t.kids = [x, y]) : pubT x ∈ todoR g ∧ pubT y ∈ todoR g := by
  rcases todo_mem.1 h with h | ⟨v, hv, _, x', y', e', h | h⟩
  · exact ⟨todo_mem.2 (.inr ⟨t, h, k, x, y, e, .inl rfl⟩), todo_mem.2 (.inr ⟨t, h, k, x, y, e, .inr rfl⟩)⟩
  · rw [h] at k; exact absurd (show (8 : Int) = 9 from k) (by decide)
  · rw [h] at k; exact absurd (show (8 : Int) = 9 from k) (by decide)
theorem todo_self (g : Tm) : g ∈ todoR g := todo_mem.2 (.inl (inT_self g))
theorem shP_len (acc : List Tm) (t : Tm) : (shP acc t).length ≤ acc.length + 2 := by
  unfold shP
  split
  · split
    · rename_i x y e
      have := with_len acc (pubT x)
      have := with_len (withT acc (pubT x)) (pubT y)
      omega
    · omega
  · omega
theorem shPs_len : ∀ (m acc : List Tm), (m.foldl shP acc).length ≤ acc.length + m.length * 2
  | [], acc => by simp
  | t :: m, acc => by
    have h1 := shPs_len m (shP acc t)
    have h2 := shP_len acc t
    rw [List.foldl_cons, List.length_cons]
    omega
theorem subR0_len (g : Tm) : (subR g []).length ≤ g.size := by have := subR_len g []; simpa using this
theorem todo_len (g : Tm) : (todoR g).length ≤ g.size * 3 := by
  have h1 := shPs_len (subR g []) (subR g [])
  have h2 := subR0_len g
  unfold todoR
  omega
theorem shPs_take (l acc : List Tm) {i : Nat} (h : i < l.length) : (l.take (i + 1)).foldl shP acc = shP ((l.take i).foldl shP acc) l[i] := by
  rw [List.take_succ_eq_append_getElem h, List.foldl_append]
  rfl

/-! The rounds. -/
/-- Can it be made of what is made? -/
def okS (l made : List Tm) (t : Tm) : Bool :=
  decide (t ∈ l) || decide (t.kind = 1) || (if t.kind = 9 then (match t.kids with | [x, y] => (decide (x ∈ made) && decide (pubT y ∈ made)) || (decide (y ∈ made) && decide (pubT x ∈ made)) | _ => false) else decide (2 < t.kind) && t.kids.all fun u => decide (u ∈ made))
def mdS (l made : List Tm) (t : Tm) : List Tm := if okS l made t = true then withT made t else made
def mdR (l todo made : List Tm) : List Tm := todo.foldl (mdS l) made
def mdI (l todo : List Tm) : Nat → List Tm
  | 0 => []
  | j + 1 => mdR l todo (mdI l todo j)
theorem mdS_mem {l made : List Tm} {t u : Tm} : u ∈ mdS l made t ↔ u ∈ made ∨ (okS l made t = true ∧ u = t) := by
  unfold mdS
  by_cases h : okS l made t = true
  · rw [if_pos h, mem_with]; simp [h]
  · rw [if_neg h]; simp [h]
theorem mdS_len (l made : List Tm) (t : Tm) : made.length ≤ (mdS l made t).length := by
  unfold mdS withT
  split
  · split
    · exact Nat.le_refl _
    · simp
  · exact Nat.le_refl _
theorem mdR_len (l : List Tm) : ∀ (m made : List Tm), made.length ≤ (mdR l m made).length
  | [], _ => Nat.le_refl _
  | t :: m, made => Nat.le_trans (mdS_len l made t) (mdR_len l m (mdS l made t))
theorem mdR_full (l : List Tm) : ∀ (m made : List Tm), (mdR l m made).length ≤ made.length → ∀ t ∈ m, okS l made t = true → t ∈ made
  | [], _, _, t, ht, _ => by cases ht
  | v :: m, made, h, t, ht, ho => by
    have h1 := mdR_len l m (mdS l made v)
    have h2 := mdS_len l made v
    have h3 : (mdS l made v).length ≤ made.length := Nat.le_trans h1 h
    have e : mdS l made v = made := by
      unfold mdS withT at h3 ⊢
      split
      · rename_i hv
        rw [if_pos hv] at h3
        split
        · rfl
        · rename_i hm
          rw [if_neg hm] at h3
          simp at h3
          omega
      · rfl
    rcases List.mem_cons.1 ht with rfl | ht
    · rw [← e, mdS_mem]; exact .inr ⟨ho, rfl⟩
    · have h' : (mdR l m made).length ≤ made.length := by
        have : mdR l (v :: m) made = mdR l m (mdS l made v) := rfl
        rwa [this, e] at h
      exact mdR_full l m made h' t ht ho
theorem mdR_sub (l : List Tm) : ∀ (m made : List Tm) (u : Tm), u ∈ mdR l m made → u ∈ made ∨ u ∈ m
  | [], made, u, h => .inl h
  | v :: m, made, u, h => by
    rcases mdR_sub l m (mdS l made v) u h with h | h
    · rcases mdS_mem.1 h with h | ⟨_, rfl⟩
      · exact .inl h
      · exact .inr (List.mem_cons_self ..)
    · exact .inr (List.mem_cons_of_mem _ h)
theorem mdI_sub (l todo : List Tm) : ∀ (j : Nat) (u : Tm), u ∈ mdI l todo j → u ∈ todo
  | 0, u, h => by cases h
  | j + 1, u, h => (mdR_sub l todo _ u h).elim (mdI_sub l todo j u) id
theorem with_nd {l : List Tm} (h : l.Nodup) (t : Tm) : (withT l t).Nodup := by
  unfold withT
  split
  · exact h
  · rename_i hn
    refine List.nodup_append.2 ⟨h, by simp, fun a ha b hb => ?_⟩
    rw [List.mem_singleton.1 hb]
    rintro rfl
    exact hn ha
theorem mdR_nd (l : List Tm) : ∀ (m made : List Tm), made.Nodup → (mdR l m made).Nodup
  | [], _, h => h
  | t :: m, made, h => mdR_nd l m (mdS l made t) (by
    unfold mdS
    split
    · exact with_nd h t
    · exact h)
theorem mdI_nd (l todo : List Tm) : ∀ j, (mdI l todo j).Nodup
  | 0 => List.nodup_nil
  | j + 1 => mdR_nd l todo _ (mdI_nd l todo j)
theorem mdI_le (l todo : List Tm) (j : Nat) : (mdI l todo j).length ≤ todo.length := nodup_len (mdI_nd l todo j) (mdI_sub l todo j)
theorem mdI_mono (l todo : List Tm) (j : Nat) : (mdI l todo j).length ≤ (mdI l todo (j + 1)).length := mdR_len l todo _
theorem md_len_le (l : List Tm) (m made : List Tm) : (mdR l m made).length ≤ made.length + m.length := by
  induction m generalizing made with
  | nil => simp [mdR]
  | cons t m ih =>
    have h1 := ih (mdS l made t)
    have h2 : (mdS l made t).length ≤ made.length + 1 := by
      unfold mdS
      split
      · exact with_len _ _
      · omega
    have e : mdR l (t :: m) made = mdR l m (mdS l made t) := rfl
    rw [e, List.length_cons]
    omega
theorem mdR_take {l made m : List Tm} {i : Nat} (h : i < m.length) : mdR l (m.take (i + 1)) made = mdS l (mdR l (m.take i) made) m[i] := by
  rw [List.take_succ_eq_append_getElem h, mdR, List.foldl_append]
  rfl
/-- Nothing is found that is not made. -/
theorem mdS_ok {l made : List Tm} {t : Tm} (g : gdT t) (hm : ∀ u ∈ made, Mk (· ∈ l) u) : ∀ u ∈ mdS l made t, Mk (· ∈ l) u := by
  intro u hu
  rcases mdS_mem.1 hu with hu | ⟨ho, rfl⟩
  · exact hm u hu
  · unfold okS at ho
    simp only [Bool.or_eq_true, decide_eq_true_eq] at ho
    rcases ho with (ho | ho) | ho
    · exact .base ho g
    · exact .data g ho
    · by_cases h9 : u.kind = 9
      · rw [if_pos h9] at ho
        obtain ⟨x, y, e⟩ := kids2 g (.inr (.inr (.inl h9)))
        rw [e] at ho
        simp only [Bool.or_eq_true, Bool.and_eq_true, decide_eq_true_eq] at ho
        rcases ho with ⟨h1, h2⟩ | ⟨h1, h2⟩
        · exact .sh1 g h9 e (hm _ h1) (hm _ h2)
        · exact .sh2 g h9 e (hm _ h1) (hm _ h2)
      · rw [if_neg h9] at ho
        simp only [Bool.and_eq_true, decide_eq_true_eq, List.all_eq_true] at ho
        exact .comp g (by omega) (by omega) h9 fun v hv => hm v (ho.2 v hv)
theorem mdR_ok {l : List Tm} : ∀ {m made : List Tm}, (∀ t ∈ m, gdT t) → (∀ u ∈ made, Mk (· ∈ l) u) → ∀ u ∈ mdR l m made, Mk (· ∈ l) u
  | [], _, _, h => h
  | t :: m, made, hg, h => mdR_ok (m := m) (made := mdS l made t) (fun u hu => hg u (List.mem_cons_of_mem _ hu)) (mdS_ok (hg t (List.mem_cons_self ..)) h)
theorem mdI_ok {l todo : List Tm} (hg : ∀ t ∈ todo, gdT t) : ∀ j, ∀ u ∈ mdI l todo j, Mk (· ∈ l) u
  | 0, u, h => by cases h
  | j + 1, u, h => mdR_ok hg (mdI_ok hg j) u h
/-- When nothing more is found, all is found. -/
theorem md_all {l made : List Tm} {g : Tm} (hf : ∀ t ∈ todoR g, okS l made t = true → t ∈ made) {t : Tm} (h : Mk (· ∈ l) t) : t ∈ todoR g → t ∈ made := by
  induction h with
  | base hb _ => exact fun ht => hf _ ht (by simp [okS, hb])
  | data _ hk => exact fun ht => hf _ ht (by simp [okS, hk])
  | @comp t hg k1 k2 k9 _ ih =>
    refine fun ht => hf _ ht ?_
    unfold okS
    rw [if_neg k9]
    have hk : 2 < t.kind := by
      have := ((shp_mk t).1 (txt_ne.1 hg.1).1).1.1
      simp only [Tm.known, Bool.and_eq_true, decide_eq_true_eq] at this
      omega
    have : (t.kids.all fun u => decide (u ∈ made)) = true := by
      rw [List.all_eq_true]
      exact fun u hu => decide_eq_true (ih u hu (todo_kid ht hu))
    rw [this, decide_eq_true hk]
    simp
  | @sh1 t x y hg k e _ _ ih1 ih2 =>
    refine fun ht => hf _ ht ?_
    have h1 := ih1 (todo_kid ht (by rw [e]; simp))
    have h2 := ih2 (todo_pub ht k e).2
    unfold okS
    rw [if_pos k, e]
    simp [h1, h2]
  | @sh2 t x y hg k e _ _ ih1 ih2 =>
    refine fun ht => hf _ ht ?_
    have h1 := ih1 (todo_kid ht (by rw [e]; simp))
    have h2 := ih2 (todo_pub ht k e).1
    unfold okS
    rw [if_pos k, e]
    simp [h1, h2]
theorem md_end {list : List Tm} {g : Tm} (hg : gdT (canT g)) {j : Nat} (h : (mdI (frR list) (todoR (canT g)) (j + 1)).length ≤ (mdI (frR list) (todoR (canT g)) j).length) : decide (canT g ∈ mdI (frR list) (todoR (canT g)) (j + 1)) = mdT list g := by
  rw [Bool.eq_iff_iff, mdT_iff, decide_eq_true_iff, ← frR_mk]
  refine ⟨mdI_ok (fun t ht => todo_gd hg ht) (j + 1) _, fun hm => ?_⟩
  have h1 := md_all (made := mdI (frR list) (todoR (canT g)) j) (mdR_full (frR list) (todoR (canT g)) _ h) hm (todo_self _)
  have key : ∀ (m made : List Tm) (u : Tm), u ∈ made → u ∈ mdR (frR list) m made := by
    intro m
    induction m with
    | nil => exact fun _ _ h => h
    | cons t m ih => exact fun made u h => ih _ u (mdS_mem.2 (.inl h))
  exact key _ _ _ h1
theorem md_no {list : List Tm} {g : Tm} (h : rightT (canT g) = false) : mdT list g = false := by
  rw [← Bool.not_eq_true, mdT_iff]
  intro hm
  have := right_gd hm.gd
  rw [h] at this
  cases this

/-! Taken apart. -/
theorem itK_gd {l : List Tm} {j : Nat} (hw : WK (univ l) (itK (ofT l) j)) {t : Tm} (h : t ∈ (itK (ofT l) j).l) : gdT t := ⟨hw.ne t h, hw.can t h⟩
theorem more_gd {S : List Bs} {l : List Tm} (h : ∀ t ∈ l, gdT t) : ∀ u ∈ moreT S l, gdT u := fun u hu => by
  obtain ⟨t, ht, hu⟩ := List.mem_flatMap.1 hu
  exact gd_kid (h t ht) (gives_sub hu)
theorem step_with {U : List Tm} {k : Kn} (hw : WK U k) : (stepK k).l = (moreT k.s k.l).foldl withT k.l :=
  adds_with ⟨k.l, k.s, dIn k.l k.s k.l k.d⟩ hw.s hw.ne _ (more_gd fun t ht => ⟨hw.ne t ht, hw.can t ht⟩)
/-- What is made of a list of right terms. -/
theorem mk_mdT {l : List Tm} (hg : ∀ t ∈ l, gdT t) {t : Tm} (hc : canT t = t) : mkB (l.map txtT) t = mdT l t := by
  rw [Bool.eq_iff_iff, mkB_mk hg _ t (Nat.le_refl _) hc, mdT_iff, hc]
  exact Mk.congr fun u hu => (fr_gd hg).symm
theorem withs_len : ∀ (m l : List Tm), (m.foldl withT l).length ≤ l.length + m.length
  | [], l => by simp
  | t :: m, l => by
    have h1 := withs_len m (withT l t)
    have h2 := with_len l t
    rw [List.foldl_cons, List.length_cons]
    omega
theorem withs_mem {u : Tm} : ∀ (m l : List Tm), u ∈ m.foldl withT l ↔ u ∈ l ∨ u ∈ m
  | [], l => by simp
  | t :: m, l => by rw [List.foldl_cons, withs_mem m, mem_with, List.mem_cons, or_assoc]
end Go.Sl
/- short -/
namespace Go.Sl
open Go Go.Vc Go.Proofs Go.RowKit Go.Lib

theorem number07_ok (b : Bool) : ∀ (k n : Nat), n ≤ k → n ≤ 9223372036854775807 → K b 87 [iv n] (.pv (.str (decDigits n)))
  | k, n, hk, hn => by
    by_cases h10 : n < 10
    · have e : decDigits n = [UInt8.ofNat (48 + n)] := decDigits_one h10
      rw [e]
      refine PC_of_vc (cx_ok b) (mixed b) {} Tryd.func87 (by kernel_rfl) rfl rfl (by kernel_rfl) ?_
      repeat (conv => whnf); first|refine IndepAnd (by kernel_rfl) ?_|refine TreeAnd (by kernel_rfl) ?_|refine ⟨rfl,?_⟩|refine And.intro (by first|decide|exact trivial|exact ⟨rfl,trivial⟩|exact Nat.le_of_ble_eq_true rfl|exact ⟨_,rfl,rfl⟩|exact ⟨rfl,rfl,trivial⟩|exact ⟨rfl,rfl,rfl,trivial⟩|exact ⟨rfl,rfl,rfl,rfl,trivial⟩|exact ⟨rfl,rfl,rfl,rfl,rfl,trivial⟩) ?_
      conv => whnf
      rw [show decide ((n : Int) < 10) = true from decide_eq_true (by omega)]
      repeat (conv => whnf); first|refine IndepAnd (by kernel_rfl) ?_|refine TreeAnd (by kernel_rfl) ?_|refine ⟨rfl,?_⟩|refine And.intro (by first|decide|exact trivial|exact ⟨rfl,trivial⟩|exact Nat.le_of_ble_eq_true rfl|exact ⟨_,rfl,rfl⟩|exact ⟨rfl,rfl,trivial⟩|exact ⟨rfl,rfl,rfl,trivial⟩|exact ⟨rfl,rfl,rfl,rfl,trivial⟩|exact ⟨rfl,rfl,rfl,rfl,rfl,trivial⟩) ?_
      conv => whnf
      refine ⟨_, wrapN (n := 48 + n) rfl (by omega), ?_⟩
      repeat (conv => whnf); first|refine IndepAnd (by kernel_rfl) ?_|refine TreeAnd (by kernel_rfl) ?_|refine ⟨rfl,?_⟩|refine And.intro (by first|decide|exact trivial|exact ⟨rfl,trivial⟩|exact Nat.le_of_ble_eq_true rfl|exact ⟨_,rfl,rfl⟩|exact ⟨rfl,rfl,trivial⟩|exact ⟨rfl,rfl,rfl,trivial⟩|exact ⟨rfl,rfl,rfl,rfl,trivial⟩|exact ⟨rfl,rfl,rfl,rfl,rfl,trivial⟩) ?_
      conv => whnf
      refine ⟨_, wrap8 (48 + n), ?_⟩
      repeat (conv => whnf); first|refine IndepAnd (by kernel_rfl) ?_|refine TreeAnd (by kernel_rfl) ?_|refine ⟨rfl,?_⟩|refine And.intro (by first|decide|exact trivial|exact ⟨rfl,trivial⟩|exact Nat.le_of_ble_eq_true rfl|exact ⟨_,rfl,rfl⟩|exact ⟨rfl,rfl,trivial⟩|exact ⟨rfl,rfl,rfl,trivial⟩|exact ⟨rfl,rfl,rfl,rfl,trivial⟩|exact ⟨rfl,rfl,rfl,rfl,rfl,trivial⟩) ?_
      conv => whnf
      refine ⟨[UInt8.ofNat (48 + n)], rfl, ?_⟩
      repeat (conv => whnf); first|refine IndepAnd (by kernel_rfl) ?_|refine TreeAnd (by kernel_rfl) ?_|refine ⟨rfl,?_⟩|refine And.intro (by first|decide|exact trivial|exact ⟨rfl,trivial⟩|exact Nat.le_of_ble_eq_true rfl|exact ⟨_,rfl,rfl⟩|exact ⟨rfl,rfl,trivial⟩|exact ⟨rfl,rfl,rfl,trivial⟩|exact ⟨rfl,rfl,rfl,rfl,trivial⟩|exact ⟨rfl,rfl,rfl,rfl,rfl,trivial⟩) ?_
      conv => whnf
      exact LEP.refl _
    · cases k with
      | zero => omega
      | succ k =>
        have ih := number07_ok b k (n / 10) (by omega) (by omega)
        have e : decDigits n = decDigits (n / 10) ++ [UInt8.ofNat (48 + n % 10)] := decDigits_step (by omega)
        have hl := decDigits_len (n / 10) (by omega)
        rw [e]
        refine PC_of_vc (cx_ok b) (mixed b) {} Tryd.func87 (by kernel_rfl) rfl rfl (by kernel_rfl) ?_
        repeat (conv => whnf); first|refine IndepAnd (by kernel_rfl) ?_|refine TreeAnd (by kernel_rfl) ?_|refine ⟨rfl,?_⟩|refine And.intro (by first|decide|exact trivial|exact ⟨rfl,trivial⟩|exact Nat.le_of_ble_eq_true rfl|exact ⟨_,rfl,rfl⟩|exact ⟨rfl,rfl,trivial⟩|exact ⟨rfl,rfl,rfl,trivial⟩|exact ⟨rfl,rfl,rfl,rfl,trivial⟩|exact ⟨rfl,rfl,rfl,rfl,rfl,trivial⟩) ?_
        conv => whnf
        rw [show decide ((n : Int) < 10) = false from decide_eq_false (by omega)]
        repeat (conv => whnf); first|refine IndepAnd (by kernel_rfl) ?_|refine TreeAnd (by kernel_rfl) ?_|refine ⟨rfl,?_⟩|refine And.intro (by first|decide|exact trivial|exact ⟨rfl,trivial⟩|exact Nat.le_of_ble_eq_true rfl|exact ⟨_,rfl,rfl⟩|exact ⟨rfl,rfl,trivial⟩|exact ⟨rfl,rfl,rfl,trivial⟩|exact ⟨rfl,rfl,rfl,rfl,trivial⟩|exact ⟨rfl,rfl,rfl,rfl,rfl,trivial⟩) ?_
        conv => whnf
        refine ⟨_, (tdiv10 n ▸ wrapN (n := n / 10) rfl (by omega)), ?_⟩
        repeat (conv => whnf); first|refine IndepAnd (by kernel_rfl) ?_|refine TreeAnd (by kernel_rfl) ?_|refine ⟨rfl,?_⟩|refine And.intro (by first|decide|exact trivial|exact ⟨rfl,trivial⟩|exact Nat.le_of_ble_eq_true rfl|exact ⟨_,rfl,rfl⟩|exact ⟨rfl,rfl,trivial⟩|exact ⟨rfl,rfl,rfl,trivial⟩|exact ⟨rfl,rfl,rfl,rfl,trivial⟩|exact ⟨rfl,rfl,rfl,rfl,rfl,trivial⟩) ?_
        conv => whnf
        refine ⟨_, CallVC.pr ih rfl rfl, ?_⟩
        repeat (conv => whnf); first|refine IndepAnd (by kernel_rfl) ?_|refine TreeAnd (by kernel_rfl) ?_|refine ⟨rfl,?_⟩|refine And.intro (by first|decide|exact trivial|exact ⟨rfl,trivial⟩|exact Nat.le_of_ble_eq_true rfl|exact ⟨_,rfl,rfl⟩|exact ⟨rfl,rfl,trivial⟩|exact ⟨rfl,rfl,rfl,trivial⟩|exact ⟨rfl,rfl,rfl,rfl,trivial⟩|exact ⟨rfl,rfl,rfl,rfl,rfl,trivial⟩) ?_
        conv => whnf
        refine ⟨_, tmod10 n, ?_⟩
        repeat (conv => whnf); first|refine IndepAnd (by kernel_rfl) ?_|refine TreeAnd (by kernel_rfl) ?_|refine ⟨rfl,?_⟩|refine And.intro (by first|decide|exact trivial|exact ⟨rfl,trivial⟩|exact Nat.le_of_ble_eq_true rfl|exact ⟨_,rfl,rfl⟩|exact ⟨rfl,rfl,trivial⟩|exact ⟨rfl,rfl,rfl,trivial⟩|exact ⟨rfl,rfl,rfl,rfl,trivial⟩|exact ⟨rfl,rfl,rfl,rfl,rfl,trivial⟩) ?_
        conv => whnf
        refine ⟨_, wrapN (n := 48 + n % 10) rfl (by omega), ?_⟩
        repeat (conv => whnf); first|refine IndepAnd (by kernel_rfl) ?_|refine TreeAnd (by kernel_rfl) ?_|refine ⟨rfl,?_⟩|refine And.intro (by first|decide|exact trivial|exact ⟨rfl,trivial⟩|exact Nat.le_of_ble_eq_true rfl|exact ⟨_,rfl,rfl⟩|exact ⟨rfl,rfl,trivial⟩|exact ⟨rfl,rfl,rfl,trivial⟩|exact ⟨rfl,rfl,rfl,rfl,trivial⟩|exact ⟨rfl,rfl,rfl,rfl,rfl,trivial⟩) ?_
        conv => whnf
        refine ⟨_, wrap8 (48 + n % 10), ?_⟩
        repeat (conv => whnf); first|refine IndepAnd (by kernel_rfl) ?_|refine TreeAnd (by kernel_rfl) ?_|refine ⟨rfl,?_⟩|refine And.intro (by first|decide|exact trivial|exact ⟨rfl,trivial⟩|exact Nat.le_of_ble_eq_true rfl|exact ⟨_,rfl,rfl⟩|exact ⟨rfl,rfl,trivial⟩|exact ⟨rfl,rfl,rfl,trivial⟩|exact ⟨rfl,rfl,rfl,rfl,trivial⟩|exact ⟨rfl,rfl,rfl,rfl,rfl,trivial⟩) ?_
        conv => whnf
        refine ⟨[UInt8.ofNat (48 + n % 10)], rfl, ?_⟩
        repeat (conv => whnf); first|refine IndepAnd (by kernel_rfl) ?_|refine TreeAnd (by kernel_rfl) ?_|refine ⟨rfl,?_⟩|refine And.intro (by first|decide|exact trivial|exact ⟨rfl,trivial⟩|exact Nat.le_of_ble_eq_true rfl|exact ⟨_,rfl,rfl⟩|exact ⟨rfl,rfl,trivial⟩|exact ⟨rfl,rfl,rfl,trivial⟩|exact ⟨rfl,rfl,rfl,rfl,trivial⟩|exact ⟨rfl,rfl,rfl,rfl,rfl,trivial⟩) ?_
        conv => whnf
        refine ⟨by show (decDigits (n / 10)).length + 1 ≤ _; omega, ?_⟩
        repeat (conv => whnf); first|refine IndepAnd (by kernel_rfl) ?_|refine TreeAnd (by kernel_rfl) ?_|refine ⟨rfl,?_⟩|refine And.intro (by first|decide|exact trivial|exact ⟨rfl,trivial⟩|exact Nat.le_of_ble_eq_true rfl|exact ⟨_,rfl,rfl⟩|exact ⟨rfl,rfl,trivial⟩|exact ⟨rfl,rfl,rfl,trivial⟩|exact ⟨rfl,rfl,rfl,rfl,trivial⟩|exact ⟨rfl,rfl,rfl,rfl,rfl,trivial⟩) ?_
        conv => whnf
        exact LEP.refl _
theorem letter_get {k : Int} (h : Tm.known k = true) : ∃ n : Nat, k - 1 = n ∧ n < 10 ∧ [PV.str [100], .str [97], .str [112], .str [101], .str [109], .str [104], .str [107], .str [117], .str [115], .str [120]][n]? = some (.str [Tm.letter k]) := by
  simp only [Tm.known, Bool.and_eq_true, decide_eq_true_eq] at h
  have : k = 1 ∨ k = 2 ∨ k = 3 ∨ k = 4 ∨ k = 5 ∨ k = 6 ∨ k = 7 ∨ k = 8 ∨ k = 9 ∨ k = 10 := by omega
  rcases this with rfl | rfl | rfl | rfl | rfl | rfl | rfl | rfl | rfl | rfl
  · exact ⟨0, rfl, by decide, rfl⟩
  · exact ⟨1, rfl, by decide, rfl⟩
  · exact ⟨2, rfl, by decide, rfl⟩
  · exact ⟨3, rfl, by decide, rfl⟩
  · exact ⟨4, rfl, by decide, rfl⟩
  · exact ⟨5, rfl, by decide, rfl⟩
  · exact ⟨6, rfl, by decide, rfl⟩
  · exact ⟨7, rfl, by decide, rfl⟩
  · exact ⟨8, rfl, by decide, rfl⟩
  · exact ⟨9, rfl, by decide, rfl⟩
theorem texts_take {l : List Tm} {i : Nat} (h : i < l.length) : Tm.texts (l.take (i + 1)) = Tm.texts (l.take i) ++ ((if 0 < i then [44] else []) ++ l[i].text) := by
  have key : ∀ (l : List Tm) (i : Nat) (h : i < l.length), Tm.texts' (l.take (i + 1)) = Tm.texts' (l.take i) ++ (44 :: l[i].text) := by
    intro l
    induction l with
    | nil => intro i h; simp at h
    | cons t l ih =>
      intro i h
      cases i with
      | zero => simp [Tm.texts']
      | succ i =>
        have := ih i (by simpa using h)
        simp only [List.take_succ_cons, Tm.texts', List.getElem_cons_succ, List.cons_append, List.append_assoc]
        rw [this]
  cases l with
  | nil => simp at h
  | cons t l =>
    cases i with
    | zero => simp [Tm.texts, Tm.texts']
    | succ i =>
      have := key l i (by simpa using h)
      simp only [List.take_succ_cons, Tm.texts, List.getElem_cons_succ, List.append_assoc]
      rw [this, if_pos (by omega)]
      rfl
theorem texts_take_len (l : List Tm) (i : Nat) : (Tm.texts (l.take i)).length ≤ (Tm.texts l).length := by
  induction l generalizing i with
  | nil => simp
  | cons t l ih =>
    have key : ∀ (l : List Tm) (i : Nat), (Tm.texts' (l.take i)).length ≤ (Tm.texts' l).length := by
      intro l
      induction l with
      | nil => intro i; simp
      | cons t l ih =>
        intro i
        cases i with
        | zero => simp [Tm.texts']
        | succ i => have := ih i; simp only [List.take_succ_cons, Tm.texts', List.length_cons, List.length_append]; omega
    cases i with
    | zero => simp [Tm.texts]
    | succ i => have := key l i; simp only [List.take_succ_cons, Tm.texts, List.length_append]; omega
theorem text07_ok (b : Bool) : ∀ t, Fit t → t.shp = true → t.text.length ≤ 1099511627776 → K b 74 [tv t] (.pv (.str t.text)) := by
  intro t
  induction t using Tm.indk with
  | h t ih =>
  intro hf hs hb
  obtain ⟨hk, hks⟩ := known_of_shp hs
  have hlen := hf.len
  have hnl : (Tm.nameText t.name).length ≤ 1099511627776 := by rw [text_mk] at hb; simp at hb; omega
  obtain ⟨ix, hix, hix2, hix3⟩ := letter_get hk
  refine PC_of_vc (cx_ok b) (mixed b) {} Tryd.func74 (by kernel_rfl) rfl rfl (by kernel_rfl) ?_
  repeat (conv => whnf); first|refine IndepAnd (by kernel_rfl) ?_|refine ⟨rfl,?_⟩|refine And.intro (by first|decide|exact trivial|exact ⟨_,rfl,rfl⟩|exact ⟨rfl,trivial⟩|exact ⟨rfl,rfl,trivial⟩) ?_
  conv => whnf
  refine ⟨by repeat (first | exact trivial | refine ⟨rfl, ?_⟩), ?_⟩
  repeat (conv => whnf); first|refine IndepAnd (by kernel_rfl) ?_|refine ⟨rfl,?_⟩|refine And.intro (by first|decide|exact trivial|exact ⟨_,rfl,rfl⟩|exact ⟨rfl,trivial⟩|exact ⟨rfl,rfl,trivial⟩) ?_
  conv => whnf
  refine ⟨_, wrapN (n := ix) hix (by omega), ?_⟩
  repeat (conv => whnf); first|refine IndepAnd (by kernel_rfl) ?_|refine ⟨rfl,?_⟩|refine And.intro (by first|decide|exact trivial|exact ⟨_,rfl,rfl⟩|exact ⟨rfl,trivial⟩|exact ⟨rfl,rfl,trivial⟩) ?_
  conv => whnf
  refine ⟨Int.natCast_nonneg _, .str [Tm.letter t.kind], hix3, rfl, rfl, ?_⟩
  repeat (conv => whnf); first|refine IndepAnd (by kernel_rfl) ?_|refine ⟨rfl,?_⟩|refine And.intro (by first|decide|exact trivial|exact ⟨_,rfl,rfl⟩|exact ⟨rfl,trivial⟩|exact ⟨rfl,rfl,trivial⟩) ?_
  conv => whnf
  refine @bool_rec _ _ _ ?_ ?_ <;> intro h1
  · have h1 : t.name ≠ [] := of_decide_eq_true h1
    have en : Tm.nameText t.name = decDigits t.name.length ++ 58 :: t.name := by rw [Tm.nameText, if_neg h1]
    have hn2 := hnl
    rw [en] at hn2
    simp only [List.length_append, List.length_cons] at hn2
    repeat (conv => whnf); first|refine IndepAnd (by kernel_rfl) ?_|refine ⟨rfl,?_⟩|refine And.intro (by first|decide|exact trivial|exact ⟨_,rfl,rfl⟩|exact ⟨rfl,trivial⟩|exact ⟨rfl,rfl,trivial⟩) ?_
    conv => whnf
    refine ⟨_, CallVC.pr (number07_ok b t.name.length t.name.length (Nat.le_refl _) (by omega)) rfl rfl, ?_⟩
    repeat (conv => whnf); first|refine IndepAnd (by kernel_rfl) ?_|refine ⟨rfl,?_⟩|refine And.intro (by first|decide|exact trivial|exact ⟨_,rfl,rfl⟩|exact ⟨rfl,trivial⟩|exact ⟨rfl,rfl,trivial⟩) ?_
    conv => whnf
    refine ⟨by show 1 + (decDigits t.name.length).length ≤ _; omega, ?_⟩
    repeat (conv => whnf); first|refine IndepAnd (by kernel_rfl) ?_|refine ⟨rfl,?_⟩|refine And.intro (by first|decide|exact trivial|exact ⟨_,rfl,rfl⟩|exact ⟨rfl,trivial⟩|exact ⟨rfl,rfl,trivial⟩) ?_
    conv => whnf
    refine ⟨by show ([Tm.letter t.kind] ++ decDigits t.name.length).length + 1 ≤ _; simp only [List.length_append, List.length_cons, List.length_nil]; omega, ?_⟩
    repeat (conv => whnf); first|refine IndepAnd (by kernel_rfl) ?_|refine ⟨rfl,?_⟩|refine And.intro (by first|decide|exact trivial|exact ⟨_,rfl,rfl⟩|exact ⟨rfl,trivial⟩|exact ⟨rfl,rfl,trivial⟩) ?_
    conv => whnf
    refine ⟨by show ([Tm.letter t.kind] ++ decDigits t.name.length ++ [58]).length + t.name.length ≤ _; simp only [List.length_append, List.length_cons, List.length_nil]; omega, ?_⟩
    repeat (conv => whnf); first|refine IndepAnd (by kernel_rfl) ?_|refine ⟨rfl,?_⟩|refine And.intro (by first|decide|exact trivial|exact ⟨_,rfl,rfl⟩|exact ⟨rfl,trivial⟩|exact ⟨rfl,rfl,trivial⟩) ?_
    conv => whnf
    obtain ⟨s0, es0⟩ : ∃ s0, s0 = [Tm.letter t.kind] ++ decDigits t.name.length ++ [58] ++ t.name := ⟨_, rfl⟩
    have es : s0 = Tm.letter t.kind :: Tm.nameText t.name := by rw [es0, en]; simp
    first | rw [← es0] | rw [show [Tm.letter t.kind] ++ decDigits t.name.length ++ { data := #[58] }.data.toList ++ t.name = s0 from es0.symm]
    refine @bool_rec _ _ _ ?_ ?_ <;> intro h2
    · have h2 : t.kind ≤ 2 := of_decide_eq_true h2
      repeat (conv => whnf); first|refine IndepAnd (by kernel_rfl) ?_|refine ⟨rfl,?_⟩|refine And.intro (by first|decide|exact trivial|exact ⟨_,rfl,rfl⟩|exact ⟨rfl,trivial⟩|exact ⟨rfl,rfl,trivial⟩) ?_
      conv => whnf
      refine LEP.of (congrArg PV.str ?_)
      have hk0 : t.kids = [] := by
        have h3 := ((shp_mk t).1 hs).1
        simp only [Tm.known, Bool.and_eq_true, decide_eq_true_eq] at h3
        have h4 : t.kind = 1 ∨ t.kind = 2 := by omega
        have h5 := h3.2.2
        rcases h4 with h4 | h4 <;> rw [h4] at h5 <;> simp [Tm.arity] at h5 <;> exact h5
      have e4 : t.text = s0 := by rw [es, text_mk, if_pos ⟨hk0, by omega⟩, List.append_nil]
      exact e4.symm
    · have h2 : ¬ t.kind ≤ 2 := of_decide_eq_false h2
      have hns : ¬ (t.kids = [] ∧ t.kind ≠ 3) := by
        rintro ⟨h3, h4⟩
        have h5 := ((shp_mk t).1 hs).1.2.2
        rw [h3] at h5
        have h6 := ((shp_mk t).1 hs).1.1
        simp only [Tm.known, Bool.and_eq_true, decide_eq_true_eq] at h6
        have h7 : t.kind = 4 ∨ t.kind = 5 ∨ t.kind = 6 ∨ t.kind = 7 ∨ t.kind = 8 ∨ t.kind = 9 ∨ t.kind = 10 := by omega
        rcases h7 with h7 | h7 | h7 | h7 | h7 | h7 | h7 <;> rw [h7] at h5 <;> simp [Tm.arity] at h5
      have etx : t.text = s0 ++ [40] ++ Tm.texts t.kids ++ [41] := by rw [es, text_mk, if_neg hns]; simp
      have hbb := hb
      rw [etx] at hbb
      simp only [List.length_append, List.length_cons, List.length_nil] at hbb
      have htl := texts_take_len t.kids
      have hkl := (texts_len t.kids).2
      repeat (conv => whnf); first|refine IndepAnd (by kernel_rfl) ?_|refine ⟨rfl,?_⟩|refine And.intro (by first|decide|exact trivial|exact ⟨_,rfl,rfl⟩|exact ⟨rfl,trivial⟩|exact ⟨rfl,rfl,trivial⟩) ?_
      conv => whnf
      refine ⟨by show s0.length + 1 ≤ _; omega, ?_⟩
      repeat (conv => whnf); first|refine IndepAnd (by kernel_rfl) ?_|refine ⟨rfl,?_⟩|refine And.intro (by first|decide|exact trivial|exact ⟨_,rfl,rfl⟩|exact ⟨rfl,trivial⟩|exact ⟨rfl,rfl,trivial⟩) ?_
      conv => whnf
      refine ⟨{ i : Nat // i ≤ t.kids.length }, fun i => S.of [(1, .ptr 1 0), (2, .p (.str [])), (4, .p (.str (s0 ++ [40] ++ Tm.texts (t.kids.take i.1)))), (5, iv i.1)] [(1, .var true 24 (tv t))], fun i => t.kids.length - i.1, ⟨0, Nat.zero_le _⟩, ?_, ?_⟩
      · refine Ge.of rfl ?_ ?_
        · repeat (conv => whnf); first | refine ⟨LE.of rfl, ?_⟩ | refine ⟨LE.of (congrArg (fun x => SV.p (PV.str x)) (by show s0 ++ [40] = _; simp [Tm.texts])), ?_⟩
          trivial
        · repeat (conv => whnf); refine ⟨OLE.of rfl, ?_⟩
          trivial
      rintro ⟨i, hi⟩
      repeat (conv => whnf); first|refine IndepAnd (by kernel_rfl) ?_|refine ⟨rfl,?_⟩|refine And.intro (by first|decide|exact trivial|exact ⟨_,rfl,rfl⟩|exact ⟨rfl,trivial⟩|exact ⟨rfl,rfl,trivial⟩) ?_
      conv => whnf
      refine @bool_rec _ _ _ ?_ ?_ <;> intro h3
      · have hlt : i < t.kids.length := by have := of_decide_eq_true h3; rw [tmvs_length] at this; exact Int.ofNat_lt.1 this
        have hm := List.getElem_mem hlt
        have h1l := htl i
        have h2l := htl (i + 1)
        have h3l := hkl _ hm
        have ett := texts_take hlt
        have ettl := congrArg List.length ett
        simp only [List.length_append] at ettl
        repeat (conv => whnf); first|refine IndepAnd (by kernel_rfl) ?_|refine ⟨rfl,?_⟩|refine And.intro (by first|decide|exact trivial|exact ⟨_,rfl,rfl⟩|exact ⟨rfl,trivial⟩|exact ⟨rfl,rfl,trivial⟩) ?_
        conv => whnf
        refine @bool_rec _ _ _ ?_ ?_ <;> intro h4
        · have h4 : 0 < i := by have h4 : (0 : Int) < (i : Int) := of_decide_eq_true h4; omega
          rw [if_pos h4] at ett ettl
          simp only [List.length_cons, List.length_nil] at ettl
          repeat (conv => whnf); first|refine IndepAnd (by kernel_rfl) ?_|refine ⟨rfl,?_⟩|refine And.intro (by first|decide|exact trivial|exact ⟨_,rfl,rfl⟩|exact ⟨rfl,trivial⟩|exact ⟨rfl,rfl,trivial⟩) ?_
          conv => whnf
          refine ⟨by show (s0 ++ [40] ++ Tm.texts (t.kids.take i)).length + 1 ≤ _; simp only [List.length_append, List.length_cons, List.length_nil]; omega, ?_⟩
          repeat (conv => whnf); first|refine IndepAnd (by kernel_rfl) ?_|refine ⟨rfl,?_⟩|refine And.intro (by first|decide|exact trivial|exact ⟨_,rfl,rfl⟩|exact ⟨rfl,trivial⟩|exact ⟨rfl,rfl,trivial⟩) ?_
          conv => whnf
          refine ⟨Int.natCast_nonneg _, TV t.kids[i], tmvs_getN hlt, rfl, rfl, ?_⟩
          repeat (conv => whnf); first|refine IndepAnd (by kernel_rfl) ?_|refine ⟨rfl,?_⟩|refine And.intro (by first|decide|exact trivial|exact ⟨_,rfl,rfl⟩|exact ⟨rfl,trivial⟩|exact ⟨rfl,rfl,trivial⟩) ?_
          conv => whnf
          refine ⟨_, CallVC.pr (ih t.kids[i] hm (hf.kid hm) (hks _ hm) (by omega)) rfl rfl, ?_⟩
          repeat (conv => whnf); first|refine IndepAnd (by kernel_rfl) ?_|refine ⟨rfl,?_⟩|refine And.intro (by first|decide|exact trivial|exact ⟨_,rfl,rfl⟩|exact ⟨rfl,trivial⟩|exact ⟨rfl,rfl,trivial⟩) ?_
          conv => whnf
          refine ⟨by show (s0 ++ [40] ++ Tm.texts (t.kids.take i) ++ [44]).length + t.kids[i].text.length ≤ _; simp only [List.length_append, List.length_cons, List.length_nil]; omega, ?_⟩
          repeat (conv => whnf); first|refine IndepAnd (by kernel_rfl) ?_|refine ⟨rfl,?_⟩|refine And.intro (by first|decide|exact trivial|exact ⟨_,rfl,rfl⟩|exact ⟨rfl,trivial⟩|exact ⟨rfl,rfl,trivial⟩) ?_
          conv => whnf
          refine ⟨_, wrapN (n := i + 1) rfl (by omega), ?_⟩
          repeat (conv => whnf); first|refine IndepAnd (by kernel_rfl) ?_|refine ⟨rfl,?_⟩|refine And.intro (by first|decide|exact trivial|exact ⟨_,rfl,rfl⟩|exact ⟨rfl,trivial⟩|exact ⟨rfl,rfl,trivial⟩) ?_
          conv => whnf
          refine ⟨⟨i + 1, hlt⟩, ?_, by show t.kids.length - (i + 1) < t.kids.length - i; omega⟩
          refine Ge.of rfl ?_ ?_
          · repeat (conv => whnf); first | refine ⟨LE.of rfl, ?_⟩ | refine ⟨LE.of (congrArg (fun x => SV.p (PV.str x)) (by show s0 ++ [40] ++ Tm.texts (t.kids.take i) ++ [44] ++ t.kids[i].text = s0 ++ [40] ++ Tm.texts (t.kids.take (i + 1)); rw [ett]; simp)), ?_⟩
            trivial
          · repeat (conv => whnf); refine ⟨OLE.of rfl, ?_⟩
            trivial
        · have h4 : ¬ 0 < i := by have h4 : ¬ (0 : Int) < (i : Int) := of_decide_eq_false h4; omega
          rw [if_neg h4] at ett ettl
          simp only [List.length_cons, List.length_nil] at ettl
          repeat (conv => whnf); first|refine IndepAnd (by kernel_rfl) ?_|refine ⟨rfl,?_⟩|refine And.intro (by first|decide|exact trivial|exact ⟨_,rfl,rfl⟩|exact ⟨rfl,trivial⟩|exact ⟨rfl,rfl,trivial⟩) ?_
          conv => whnf
          refine ⟨Int.natCast_nonneg _, TV t.kids[i], tmvs_getN hlt, rfl, rfl, ?_⟩
          repeat (conv => whnf); first|refine IndepAnd (by kernel_rfl) ?_|refine ⟨rfl,?_⟩|refine And.intro (by first|decide|exact trivial|exact ⟨_,rfl,rfl⟩|exact ⟨rfl,trivial⟩|exact ⟨rfl,rfl,trivial⟩) ?_
          conv => whnf
          refine ⟨_, CallVC.pr (ih t.kids[i] hm (hf.kid hm) (hks _ hm) (by omega)) rfl rfl, ?_⟩
          repeat (conv => whnf); first|refine IndepAnd (by kernel_rfl) ?_|refine ⟨rfl,?_⟩|refine And.intro (by first|decide|exact trivial|exact ⟨_,rfl,rfl⟩|exact ⟨rfl,trivial⟩|exact ⟨rfl,rfl,trivial⟩) ?_
          conv => whnf
          refine ⟨by show (s0 ++ [40] ++ Tm.texts (t.kids.take i)).length + t.kids[i].text.length ≤ _; simp only [List.length_append, List.length_cons, List.length_nil]; omega, ?_⟩
          repeat (conv => whnf); first|refine IndepAnd (by kernel_rfl) ?_|refine ⟨rfl,?_⟩|refine And.intro (by first|decide|exact trivial|exact ⟨_,rfl,rfl⟩|exact ⟨rfl,trivial⟩|exact ⟨rfl,rfl,trivial⟩) ?_
          conv => whnf
          refine ⟨_, wrapN (n := i + 1) rfl (by omega), ?_⟩
          repeat (conv => whnf); first|refine IndepAnd (by kernel_rfl) ?_|refine ⟨rfl,?_⟩|refine And.intro (by first|decide|exact trivial|exact ⟨_,rfl,rfl⟩|exact ⟨rfl,trivial⟩|exact ⟨rfl,rfl,trivial⟩) ?_
          conv => whnf
          refine ⟨⟨i + 1, hlt⟩, ?_, by show t.kids.length - (i + 1) < t.kids.length - i; omega⟩
          refine Ge.of rfl ?_ ?_
          · repeat (conv => whnf); first | refine ⟨LE.of rfl, ?_⟩ | refine ⟨LE.of (congrArg (fun x => SV.p (PV.str x)) (by show s0 ++ [40] ++ Tm.texts (t.kids.take i) ++ t.kids[i].text = s0 ++ [40] ++ Tm.texts (t.kids.take (i + 1)); rw [ett]; simp)), ?_⟩
            trivial
          · repeat (conv => whnf); refine ⟨OLE.of rfl, ?_⟩
            trivial
      · have hge : t.kids.take i = t.kids := List.take_of_length_le (by have := of_decide_eq_false h3; rw [tmvs_length] at this; have h5 : ¬ ((i : Int) < t.kids.length) := this; omega)
        rw [hge]
        repeat (conv => whnf); first|refine IndepAnd (by kernel_rfl) ?_|refine ⟨rfl,?_⟩|refine And.intro (by first|decide|exact trivial|exact ⟨_,rfl,rfl⟩|exact ⟨rfl,trivial⟩|exact ⟨rfl,rfl,trivial⟩) ?_
        conv => whnf
        refine ⟨by show (s0 ++ [40] ++ Tm.texts t.kids).length + 1 ≤ _; simp only [List.length_append, List.length_cons, List.length_nil]; omega, ?_⟩
        repeat (conv => whnf); first|refine IndepAnd (by kernel_rfl) ?_|refine ⟨rfl,?_⟩|refine And.intro (by first|decide|exact trivial|exact ⟨_,rfl,rfl⟩|exact ⟨rfl,trivial⟩|exact ⟨rfl,rfl,trivial⟩) ?_
        conv => whnf
        exact LEP.of (congrArg PV.str etx.symm)
  · have h1 : t.name = [] := by have h1 : ¬ t.name ≠ [] := of_decide_eq_false h1; exact Classical.not_not.1 h1
    obtain ⟨s0, es0⟩ : ∃ s0, s0 = [Tm.letter t.kind] := ⟨_, rfl⟩
    have es : s0 = Tm.letter t.kind :: Tm.nameText t.name := by rw [es0, h1]; rfl
    repeat (conv => whnf); first|refine IndepAnd (by kernel_rfl) ?_|refine ⟨rfl,?_⟩|refine And.intro (by first|decide|exact trivial|exact ⟨_,rfl,rfl⟩|exact ⟨rfl,trivial⟩|exact ⟨rfl,rfl,trivial⟩) ?_
    conv => whnf
    rw [← es0]
    refine @bool_rec _ _ _ ?_ ?_ <;> intro h2
    · have h2 : t.kind ≤ 2 := of_decide_eq_true h2
      repeat (conv => whnf); first|refine IndepAnd (by kernel_rfl) ?_|refine ⟨rfl,?_⟩|refine And.intro (by first|decide|exact trivial|exact ⟨_,rfl,rfl⟩|exact ⟨rfl,trivial⟩|exact ⟨rfl,rfl,trivial⟩) ?_
      conv => whnf
      refine LEP.of (congrArg PV.str ?_)
      have hk0 : t.kids = [] := by
        have h3 := ((shp_mk t).1 hs).1
        simp only [Tm.known, Bool.and_eq_true, decide_eq_true_eq] at h3
        have h4 : t.kind = 1 ∨ t.kind = 2 := by omega
        have h5 := h3.2.2
        rcases h4 with h4 | h4 <;> rw [h4] at h5 <;> simp [Tm.arity] at h5 <;> exact h5
      have e4 : t.text = s0 := by rw [es, text_mk, if_pos ⟨hk0, by omega⟩, List.append_nil]
      exact e4.symm
    · have h2 : ¬ t.kind ≤ 2 := of_decide_eq_false h2
      have hns : ¬ (t.kids = [] ∧ t.kind ≠ 3) := by
        rintro ⟨h3, h4⟩
        have h5 := ((shp_mk t).1 hs).1.2.2
        rw [h3] at h5
        have h6 := ((shp_mk t).1 hs).1.1
        simp only [Tm.known, Bool.and_eq_true, decide_eq_true_eq] at h6
        have h7 : t.kind = 4 ∨ t.kind = 5 ∨ t.kind = 6 ∨ t.kind = 7 ∨ t.kind = 8 ∨ t.kind = 9 ∨ t.kind = 10 := by omega
        rcases h7 with h7 | h7 | h7 | h7 | h7 | h7 | h7 <;> rw [h7] at h5 <;> simp [Tm.arity] at h5
      have etx : t.text = s0 ++ [40] ++ Tm.texts t.kids ++ [41] := by rw [es, text_mk, if_neg hns]; simp
      have hbb := hb
      rw [etx] at hbb
      simp only [List.length_append, List.length_cons, List.length_nil] at hbb
      have htl := texts_take_len t.kids
      have hkl := (texts_len t.kids).2
      repeat (conv => whnf); first|refine IndepAnd (by kernel_rfl) ?_|refine ⟨rfl,?_⟩|refine And.intro (by first|decide|exact trivial|exact ⟨_,rfl,rfl⟩|exact ⟨rfl,trivial⟩|exact ⟨rfl,rfl,trivial⟩) ?_
      conv => whnf
      refine ⟨by show s0.length + 1 ≤ _; omega, ?_⟩
      repeat (conv => whnf); first|refine IndepAnd (by kernel_rfl) ?_|refine ⟨rfl,?_⟩|refine And.intro (by first|decide|exact trivial|exact ⟨_,rfl,rfl⟩|exact ⟨rfl,trivial⟩|exact ⟨rfl,rfl,trivial⟩) ?_
      conv => whnf
      refine ⟨{ i : Nat // i ≤ t.kids.length }, fun i => S.of [(1, .ptr 1 0), (2, .p (.str [])), (4, .p (.str (s0 ++ [40] ++ Tm.texts (t.kids.take i.1)))), (5, iv i.1)] [(1, .var true 24 (tv t))], fun i => t.kids.length - i.1, ⟨0, Nat.zero_le _⟩, ?_, ?_⟩
      · refine Ge.of rfl ?_ ?_
        · repeat (conv => whnf); first | refine ⟨LE.of rfl, ?_⟩ | refine ⟨LE.of (congrArg (fun x => SV.p (PV.str x)) (by show s0 ++ [40] = _; simp [Tm.texts])), ?_⟩
          trivial
        · repeat (conv => whnf); refine ⟨OLE.of rfl, ?_⟩
          trivial
      rintro ⟨i, hi⟩
      repeat (conv => whnf); first|refine IndepAnd (by kernel_rfl) ?_|refine ⟨rfl,?_⟩|refine And.intro (by first|decide|exact trivial|exact ⟨_,rfl,rfl⟩|exact ⟨rfl,trivial⟩|exact ⟨rfl,rfl,trivial⟩) ?_
      conv => whnf
      refine @bool_rec _ _ _ ?_ ?_ <;> intro h3
      · have hlt : i < t.kids.length := by have := of_decide_eq_true h3; rw [tmvs_length] at this; exact Int.ofNat_lt.1 this
        have hm := List.getElem_mem hlt
        have h1l := htl i
        have h2l := htl (i + 1)
        have h3l := hkl _ hm
        have ett := texts_take hlt
        have ettl := congrArg List.length ett
        simp only [List.length_append] at ettl
        repeat (conv => whnf); first|refine IndepAnd (by kernel_rfl) ?_|refine ⟨rfl,?_⟩|refine And.intro (by first|decide|exact trivial|exact ⟨_,rfl,rfl⟩|exact ⟨rfl,trivial⟩|exact ⟨rfl,rfl,trivial⟩) ?_
        conv => whnf
        refine @bool_rec _ _ _ ?_ ?_ <;> intro h4
        · have h4 : 0 < i := by have h4 : (0 : Int) < (i : Int) := of_decide_eq_true h4; omega
          rw [if_pos h4] at ett ettl
          simp only [List.length_cons, List.length_nil] at ettl
          repeat (conv => whnf); first|refine IndepAnd (by kernel_rfl) ?_|refine ⟨rfl,?_⟩|refine And.intro (by first|decide|exact trivial|exact ⟨_,rfl,rfl⟩|exact ⟨rfl,trivial⟩|exact ⟨rfl,rfl,trivial⟩) ?_
          conv => whnf
          refine ⟨by show (s0 ++ [40] ++ Tm.texts (t.kids.take i)).length + 1 ≤ _; simp only [List.length_append, List.length_cons, List.length_nil]; omega, ?_⟩
          repeat (conv => whnf); first|refine IndepAnd (by kernel_rfl) ?_|refine ⟨rfl,?_⟩|refine And.intro (by first|decide|exact trivial|exact ⟨_,rfl,rfl⟩|exact ⟨rfl,trivial⟩|exact ⟨rfl,rfl,trivial⟩) ?_
          conv => whnf
          refine ⟨Int.natCast_nonneg _, TV t.kids[i], tmvs_getN hlt, rfl, rfl, ?_⟩
          repeat (conv => whnf); first|refine IndepAnd (by kernel_rfl) ?_|refine ⟨rfl,?_⟩|refine And.intro (by first|decide|exact trivial|exact ⟨_,rfl,rfl⟩|exact ⟨rfl,trivial⟩|exact ⟨rfl,rfl,trivial⟩) ?_
          conv => whnf
          refine ⟨_, CallVC.pr (ih t.kids[i] hm (hf.kid hm) (hks _ hm) (by omega)) rfl rfl, ?_⟩
          repeat (conv => whnf); first|refine IndepAnd (by kernel_rfl) ?_|refine ⟨rfl,?_⟩|refine And.intro (by first|decide|exact trivial|exact ⟨_,rfl,rfl⟩|exact ⟨rfl,trivial⟩|exact ⟨rfl,rfl,trivial⟩) ?_
          conv => whnf
          refine ⟨by show (s0 ++ [40] ++ Tm.texts (t.kids.take i) ++ [44]).length + t.kids[i].text.length ≤ _; simp only [List.length_append, List.length_cons, List.length_nil]; omega, ?_⟩
          repeat (conv => whnf); first|refine IndepAnd (by kernel_rfl) ?_|refine ⟨rfl,?_⟩|refine And.intro (by first|decide|exact trivial|exact ⟨_,rfl,rfl⟩|exact ⟨rfl,trivial⟩|exact ⟨rfl,rfl,trivial⟩) ?_
          conv => whnf
          refine ⟨_, wrapN (n := i + 1) rfl (by omega), ?_⟩
          repeat (conv => whnf); first|refine IndepAnd (by kernel_rfl) ?_|refine ⟨rfl,?_⟩|refine And.intro (by first|decide|exact trivial|exact ⟨_,rfl,rfl⟩|exact ⟨rfl,trivial⟩|exact ⟨rfl,rfl,trivial⟩) ?_
          conv => whnf
          refine ⟨⟨i + 1, hlt⟩, ?_, by show t.kids.length - (i + 1) < t.kids.length - i; omega⟩
          refine Ge.of rfl ?_ ?_
          · repeat (conv => whnf); first | refine ⟨LE.of rfl, ?_⟩ | refine ⟨LE.of (congrArg (fun x => SV.p (PV.str x)) (by show s0 ++ [40] ++ Tm.texts (t.kids.take i) ++ [44] ++ t.kids[i].text = s0 ++ [40] ++ Tm.texts (t.kids.take (i + 1)); rw [ett]; simp)), ?_⟩
            trivial
          · repeat (conv => whnf); refine ⟨OLE.of rfl, ?_⟩
            trivial
        · have h4 : ¬ 0 < i := by have h4 : ¬ (0 : Int) < (i : Int) := of_decide_eq_false h4; omega
          rw [if_neg h4] at ett ettl
          simp only [List.length_cons, List.length_nil] at ettl
          repeat (conv => whnf); first|refine IndepAnd (by kernel_rfl) ?_|refine ⟨rfl,?_⟩|refine And.intro (by first|decide|exact trivial|exact ⟨_,rfl,rfl⟩|exact ⟨rfl,trivial⟩|exact ⟨rfl,rfl,trivial⟩) ?_
          conv => whnf
          refine ⟨Int.natCast_nonneg _, TV t.kids[i], tmvs_getN hlt, rfl, rfl, ?_⟩
          repeat (conv => whnf); first|refine IndepAnd (by kernel_rfl) ?_|refine ⟨rfl,?_⟩|refine And.intro (by first|decide|exact trivial|exact ⟨_,rfl,rfl⟩|exact ⟨rfl,trivial⟩|exact ⟨rfl,rfl,trivial⟩) ?_
          conv => whnf
          refine ⟨_, CallVC.pr (ih t.kids[i] hm (hf.kid hm) (hks _ hm) (by omega)) rfl rfl, ?_⟩
          repeat (conv => whnf); first|refine IndepAnd (by kernel_rfl) ?_|refine ⟨rfl,?_⟩|refine And.intro (by first|decide|exact trivial|exact ⟨_,rfl,rfl⟩|exact ⟨rfl,trivial⟩|exact ⟨rfl,rfl,trivial⟩) ?_
          conv => whnf
          refine ⟨by show (s0 ++ [40] ++ Tm.texts (t.kids.take i)).length + t.kids[i].text.length ≤ _; simp only [List.length_append, List.length_cons, List.length_nil]; omega, ?_⟩
          repeat (conv => whnf); first|refine IndepAnd (by kernel_rfl) ?_|refine ⟨rfl,?_⟩|refine And.intro (by first|decide|exact trivial|exact ⟨_,rfl,rfl⟩|exact ⟨rfl,trivial⟩|exact ⟨rfl,rfl,trivial⟩) ?_
          conv => whnf
          refine ⟨_, wrapN (n := i + 1) rfl (by omega), ?_⟩
          repeat (conv => whnf); first|refine IndepAnd (by kernel_rfl) ?_|refine ⟨rfl,?_⟩|refine And.intro (by first|decide|exact trivial|exact ⟨_,rfl,rfl⟩|exact ⟨rfl,trivial⟩|exact ⟨rfl,rfl,trivial⟩) ?_
          conv => whnf
          refine ⟨⟨i + 1, hlt⟩, ?_, by show t.kids.length - (i + 1) < t.kids.length - i; omega⟩
          refine Ge.of rfl ?_ ?_
          · repeat (conv => whnf); first | refine ⟨LE.of rfl, ?_⟩ | refine ⟨LE.of (congrArg (fun x => SV.p (PV.str x)) (by show s0 ++ [40] ++ Tm.texts (t.kids.take i) ++ t.kids[i].text = s0 ++ [40] ++ Tm.texts (t.kids.take (i + 1)); rw [ett]; simp)), ?_⟩
            trivial
          · repeat (conv => whnf); refine ⟨OLE.of rfl, ?_⟩
            trivial
      · have hge : t.kids.take i = t.kids := List.take_of_length_le (by have := of_decide_eq_false h3; rw [tmvs_length] at this; have h5 : ¬ ((i : Int) < t.kids.length) := this; omega)
        rw [hge]
        repeat (conv => whnf); first|refine IndepAnd (by kernel_rfl) ?_|refine ⟨rfl,?_⟩|refine And.intro (by first|decide|exact trivial|exact ⟨_,rfl,rfl⟩|exact ⟨rfl,trivial⟩|exact ⟨rfl,rfl,trivial⟩) ?_
        conv => whnf
        refine ⟨by show (s0 ++ [40] ++ Tm.texts t.kids).length + 1 ≤ _; simp only [List.length_append, List.length_cons, List.length_nil]; omega, ?_⟩
        repeat (conv => whnf); first|refine IndepAnd (by kernel_rfl) ?_|refine ⟨rfl,?_⟩|refine And.intro (by first|decide|exact trivial|exact ⟨_,rfl,rfl⟩|exact ⟨rfl,trivial⟩|exact ⟨rfl,rfl,trivial⟩) ?_
        conv => whnf
        exact LEP.of (congrArg PV.str etx.symm)
/-! Text -/
theorem txt_eq (t : Tm) : txtT t = if t.shp = true ∧ t.depth ≤ 60 then t.text else [] := by
  unfold txtT
  by_cases h : t.shp = true ∧ t.depth ≤ 60
  · rw [if_pos h, if_pos ((shpD_iff _ _).2 h)]
  · rw [if_neg h, if_neg (fun h' => h ((shpD_iff _ _).1 h'))]
theorem Text07_ok (b : Bool) (t : Tm) (hf : Fit t) (hw : wt t ≤ 1000000000) : K b 54 [tv t] (.pv (.str (txtT t))) := by
  have hb := text_big hf hw
  have e := txt_eq t
  refine PC_of_vc (cx_ok b) (mixed b) {} Tryd.func54 (by kernel_rfl) rfl rfl (by kernel_rfl) ?_
  repeat (conv => whnf); first|refine IndepAnd (by kernel_rfl) ?_|refine ⟨rfl,?_⟩|refine And.intro (by first|decide|exact trivial|exact ⟨_,rfl,rfl⟩|exact ⟨rfl,trivial⟩|exact ⟨rfl,rfl,trivial⟩) ?_
  conv => whnf
  refine ⟨_, CallVC.pr (deep07_ok b t hf 61 (by decide) (by decide)) rfl rfl, ?_⟩
  repeat (conv => whnf); first|refine IndepAnd (by kernel_rfl) ?_|refine ⟨rfl,?_⟩|refine And.intro (by first|decide|exact trivial|exact ⟨_,rfl,rfl⟩|exact ⟨rfl,trivial⟩|exact ⟨rfl,rfl,trivial⟩) ?_
  conv => whnf
  refine @bool_rec _ _ _ ?_ ?_ <;> intro h1
  · have h1 : 60 < depT t 61 := by have h1 : (60 : Int) < ((depT t 61 : Nat) : Int) := of_decide_eq_true h1; omega
    rw [depT] at h1
    rw [if_neg (by omega)] at e
    rw [e]
    repeat (conv => whnf); first|refine IndepAnd (by kernel_rfl) ?_|refine ⟨rfl,?_⟩|refine And.intro (by first|decide|exact trivial|exact ⟨_,rfl,rfl⟩|exact ⟨rfl,trivial⟩|exact ⟨rfl,rfl,trivial⟩) ?_
    conv => whnf
    exact LEP.refl _
  · have h1 : ¬ 60 < depT t 61 := by have h1 : ¬ (60 : Int) < ((depT t 61 : Nat) : Int) := of_decide_eq_false h1; omega
    rw [depT] at h1
    repeat (conv => whnf); first|refine IndepAnd (by kernel_rfl) ?_|refine ⟨rfl,?_⟩|refine And.intro (by first|decide|exact trivial|exact ⟨_,rfl,rfl⟩|exact ⟨rfl,trivial⟩|exact ⟨rfl,rfl,trivial⟩) ?_
    conv => whnf
    refine ⟨_, CallVC.pr (shape07_ok b t hf) rfl rfl, ?_⟩
    repeat (conv => whnf); first|refine IndepAnd (by kernel_rfl) ?_|refine ⟨rfl,?_⟩|refine And.intro (by first|decide|exact trivial|exact ⟨_,rfl,rfl⟩|exact ⟨rfl,trivial⟩|exact ⟨rfl,rfl,trivial⟩) ?_
    conv => whnf
    refine @bool_rec _ _ _ ?_ ?_ <;> intro h2
    · have h2 : ¬ t.shp = true := by have h2 : (!t.shp) = true := h2; simpa using h2
      rw [if_neg (fun h => h2 h.1)] at e
      rw [e]
      repeat (conv => whnf); first|refine IndepAnd (by kernel_rfl) ?_|refine ⟨rfl,?_⟩|refine And.intro (by first|decide|exact trivial|exact ⟨_,rfl,rfl⟩|exact ⟨rfl,trivial⟩|exact ⟨rfl,rfl,trivial⟩) ?_
      conv => whnf
      exact LEP.refl _
    · have h2 : t.shp = true := by have h2 : (!t.shp) = false := h2; simpa using h2
      rw [if_pos ⟨h2, by omega⟩] at e
      rw [e]
      repeat (conv => whnf); first|refine IndepAnd (by kernel_rfl) ?_|refine ⟨rfl,?_⟩|refine And.intro (by first|decide|exact trivial|exact ⟨_,rfl,rfl⟩|exact ⟨rfl,trivial⟩|exact ⟨rfl,rfl,trivial⟩) ?_
      conv => whnf
      refine ⟨_, CallVC.pr (text07_ok b t hf h2 hb) rfl rfl, ?_⟩
      repeat (conv => whnf); first|refine IndepAnd (by kernel_rfl) ?_|refine ⟨rfl,?_⟩|refine And.intro (by first|decide|exact trivial|exact ⟨_,rfl,rfl⟩|exact ⟨rfl,trivial⟩|exact ⟨rfl,rfl,trivial⟩) ?_
      conv => whnf
      exact LEP.refl _
end Go.Sl
/- short -/
namespace Go.Sl
open Go Go.Vc Go.Proofs Go.RowKit

theorem bl_total : ∀ a b : List UInt8, (Op.bytesLess a b || decide (a = b)) = !Op.bytesLess b a
  | [], [] => rfl
  | [], _ :: _ => rfl
  | _ :: _, [] => rfl
  | a :: x, b :: y => by
    have ih := bl_total x y
    rw [Bool.eq_iff_iff] at ih ⊢
    simp only [Op.bytesLess, Bool.or_eq_true, Bool.and_eq_true, decide_eq_true_eq, beq_iff_eq, Bool.not_eq_true', Bool.or_eq_false_iff, Bool.and_eq_false_iff, decide_eq_false_iff_not, List.cons.injEq, beq_eq_false_iff_ne] at ih ⊢
    constructor
    · rintro ((h | ⟨rfl, h⟩) | ⟨rfl, rfl⟩)
      · exact ⟨UInt8.lt_asymm h, .inl (by rintro rfl; exact UInt8.lt_irrefl _ h)⟩
      · exact ⟨UInt8.lt_irrefl _, .inr (ih.1 (.inl h))⟩
      · exact ⟨UInt8.lt_irrefl _, .inr (ih.1 (.inr rfl))⟩
    · rintro ⟨h1, h2⟩
      by_cases he : a = b
      · subst he
        have h3 := h2.resolve_left (fun h => h rfl)
        rcases ih.2 h3 with h | h
        · exact .inl (.inr ⟨rfl, h⟩)
        · exact .inr ⟨rfl, h⟩
      · refine .inl (.inl ?_)
        have h1 : ¬ b.toNat < a.toNat := h1
        show a.toNat < b.toNat
        have h3 : a.toNat ≠ b.toNat := fun h => he (UInt8.toNat_inj.1 h)
        omega
theorem ordT_kids (t : Tm) : ordT t = (!(decide (t.kind = 9) && Op.bytesLess (t.kids.getD 1 (.mk 0 [] [])).text (t.kids.getD 0 (.mk 0 [] [])).text) && t.kids.all ordT) := by
  rw [ordT_eq]
  congr 1
  rw [List.not_any_eq_all_not]
  simp
theorem ordered07_ok (b : Bool) : ∀ t, Fit t → t.shp = true → t.depth ≤ 60 → wt t ≤ 1000000000 → K b 55 [tv t] (.pv (.bool (ordT t))) := by
  intro t
  induction t using Tm.indk with
  | h t ih =>
  intro hf hs hd hw
  have hks := (shp_mk t).1 hs
  have hlen := hf.len
  have htx : ∀ u ∈ t.kids, txtT u = u.text ∧ wt u ≤ 1000000000 := fun u hu => by
    have h1 := depth_kid' hu
    have h2 := wts_mem hu
    have h3 := wt_eq t
    exact ⟨by rw [txt_eq, if_pos ⟨hks.2 u hu, by omega⟩], by omega⟩
  have eo := ordT_kids t
  refine PC_of_vc (cx_ok b) (mixed b) {} Tryd.func55 (by kernel_rfl) rfl rfl (by kernel_rfl) ?_
  repeat (conv => whnf); first|refine IndepAnd (by kernel_rfl) ?_|refine ⟨rfl,?_⟩|refine And.intro (by first|decide|exact trivial|exact ⟨_,rfl,rfl⟩|exact ⟨rfl,trivial⟩|exact ⟨rfl,rfl,trivial⟩) ?_
  conv => whnf
  refine ⟨{ i : Nat // i ≤ t.kids.length ∧ (t.kids.take i).all ordT = true }, fun i => S.of [(1, .ptr 1 0), (2, .p (.bool false)), (3, iv i.1)] [(1, .var true 24 (tv t))], fun i => t.kids.length - i.1, ⟨0, Nat.zero_le _, rfl⟩, ?_, ?_⟩
  · refine Ge.of rfl ?_ ?_
    · repeat (conv => whnf); refine ⟨LE.of rfl, ?_⟩
      trivial
    · repeat (conv => whnf); refine ⟨OLE.of rfl, ?_⟩
      trivial
  rintro ⟨i, hi, ha⟩
  repeat (conv => whnf); first|refine IndepAnd (by kernel_rfl) ?_|refine ⟨rfl,?_⟩|refine And.intro (by first|decide|exact trivial|exact ⟨_,rfl,rfl⟩|exact ⟨rfl,trivial⟩|exact ⟨rfl,rfl,trivial⟩) ?_
  conv => whnf
  refine @bool_rec _ _ _ ?_ ?_ <;> intro h1
  · have hlt : i < t.kids.length := by have := of_decide_eq_true h1; rw [tmvs_length] at this; exact Int.ofNat_lt.1 this
    have hm := List.getElem_mem hlt
    have hd' := depth_kid' hm
    repeat (conv => whnf); first|refine IndepAnd (by kernel_rfl) ?_|refine ⟨rfl,?_⟩|refine And.intro (by first|decide|exact trivial|exact ⟨_,rfl,rfl⟩|exact ⟨rfl,trivial⟩|exact ⟨rfl,rfl,trivial⟩) ?_
    conv => whnf
    refine ⟨Int.natCast_nonneg _, TV t.kids[i], tmvs_getN hlt, rfl, rfl, ?_⟩
    repeat (conv => whnf); first|refine IndepAnd (by kernel_rfl) ?_|refine ⟨rfl,?_⟩|refine And.intro (by first|decide|exact trivial|exact ⟨_,rfl,rfl⟩|exact ⟨rfl,trivial⟩|exact ⟨rfl,rfl,trivial⟩) ?_
    conv => whnf
    refine ⟨_, CallVC.pr (ih t.kids[i] hm (hf.kid hm) (hks.2 _ hm) (by omega) (htx _ hm).2) rfl rfl, ?_⟩
    repeat (conv => whnf); first|refine IndepAnd (by kernel_rfl) ?_|refine ⟨rfl,?_⟩|refine And.intro (by first|decide|exact trivial|exact ⟨_,rfl,rfl⟩|exact ⟨rfl,trivial⟩|exact ⟨rfl,rfl,trivial⟩) ?_
    conv => whnf
    refine @bool_rec _ _ _ ?_ ?_ <;> intro h2
    · have h2 : ordT t.kids[i] = false := by have h2 : (!ordT t.kids[i]) = true := h2; simpa using h2
      have e : ordT t = false := by
        rw [eo]
        have : t.kids.all ordT = false := by rw [List.all_eq_false]; exact ⟨_, hm, by rw [h2]; decide⟩
        rw [this, Bool.and_false]
      repeat (conv => whnf); first|refine IndepAnd (by kernel_rfl) ?_|refine ⟨rfl,?_⟩|refine And.intro (by first|decide|exact trivial|exact ⟨_,rfl,rfl⟩|exact ⟨rfl,trivial⟩|exact ⟨rfl,rfl,trivial⟩) ?_
      conv => whnf
      exact LEP.of (congrArg PV.bool e.symm)
    · have h2 : ordT t.kids[i] = true := by have h2 : (!ordT t.kids[i]) = false := h2; simpa using h2
      repeat (conv => whnf); first|refine IndepAnd (by kernel_rfl) ?_|refine ⟨rfl,?_⟩|refine And.intro (by first|decide|exact trivial|exact ⟨_,rfl,rfl⟩|exact ⟨rfl,trivial⟩|exact ⟨rfl,rfl,trivial⟩) ?_
      conv => whnf
      refine ⟨_, wrapN (n := i + 1) rfl (by omega), ?_⟩
      repeat (conv => whnf); first|refine IndepAnd (by kernel_rfl) ?_|refine ⟨rfl,?_⟩|refine And.intro (by first|decide|exact trivial|exact ⟨_,rfl,rfl⟩|exact ⟨rfl,trivial⟩|exact ⟨rfl,rfl,trivial⟩) ?_
      conv => whnf
      refine ⟨⟨i + 1, hlt, ?_⟩, ?_, by show t.kids.length - (i + 1) < t.kids.length - i; omega⟩
      · have ha : (t.kids.take i).all ordT = true := ha
        rw [List.take_succ_eq_append_getElem hlt, List.all_append, ha]
        simp [h2]
      · refine Ge.of rfl ?_ ?_
        · repeat (conv => whnf); refine ⟨LE.of rfl, ?_⟩
          trivial
        · repeat (conv => whnf); refine ⟨OLE.of rfl, ?_⟩
          trivial
  · have hge : t.kids.take i = t.kids := List.take_of_length_le (by have := of_decide_eq_false h1; rw [tmvs_length] at this; have h5 : ¬ ((i : Int) < t.kids.length) := this; omega)
    have ha : (t.kids.take i).all ordT = true := ha
    rw [hge] at ha
    rw [ha, Bool.and_true] at eo
    repeat (conv => whnf); first|refine IndepAnd (by kernel_rfl) ?_|refine ⟨rfl,?_⟩|refine And.intro (by first|decide|exact trivial|exact ⟨_,rfl,rfl⟩|exact ⟨rfl,trivial⟩|exact ⟨rfl,rfl,trivial⟩) ?_
    conv => whnf
    refine @bool_rec _ _ _ ?_ ?_ <;> intro h3
    · have h3 : ¬ t.kind = 9 := by have h3 := of_decide_eq_true h3; exact h3
      have e : ordT t = true := by rw [eo, decide_eq_false h3]; rfl
      repeat (conv => whnf); first|refine IndepAnd (by kernel_rfl) ?_|refine ⟨rfl,?_⟩|refine And.intro (by first|decide|exact trivial|exact ⟨_,rfl,rfl⟩|exact ⟨rfl,trivial⟩|exact ⟨rfl,rfl,trivial⟩) ?_
      conv => whnf
      exact LEP.of (congrArg PV.bool e.symm)
    · have h3 : t.kind = 9 := by have h3 := of_decide_eq_false h3; exact Classical.not_not.1 h3
      have h2 := share_len hs h3
      have m0 := List.getElem_mem (show 0 < t.kids.length by omega)
      have m1 := List.getElem_mem (show 1 < t.kids.length by omega)
      have g0 : t.kids.getD 0 (.mk 0 [] []) = t.kids[0] := by simp [h2]
      have g1 : t.kids.getD 1 (.mk 0 [] []) = t.kids[1] := by simp [h2]
      rw [g0, g1, decide_eq_true h3] at eo
      have t0 := Text07_ok b t.kids[0] (hf.kid m0) (htx _ m0).2
      have t1 := Text07_ok b t.kids[1] (hf.kid m1) (htx _ m1).2
      rw [(htx _ m0).1] at t0
      rw [(htx _ m1).1] at t1
      repeat (conv => whnf); first|refine IndepAnd (by kernel_rfl) ?_|refine ⟨rfl,?_⟩|refine And.intro (by first|decide|exact trivial|exact ⟨_,rfl,rfl⟩|exact ⟨rfl,trivial⟩|exact ⟨rfl,rfl,trivial⟩) ?_
      conv => whnf
      refine ⟨_, tmvs_get (i := 0) (by omega), rfl, rfl, ?_⟩
      repeat (conv => whnf); first|refine IndepAnd (by kernel_rfl) ?_|refine ⟨rfl,?_⟩|refine And.intro (by first|decide|exact trivial|exact ⟨_,rfl,rfl⟩|exact ⟨rfl,trivial⟩|exact ⟨rfl,rfl,trivial⟩) ?_
      conv => whnf
      refine ⟨_, CallVC.pr t0 rfl rfl, ?_⟩
      repeat (conv => whnf); first|refine IndepAnd (by kernel_rfl) ?_|refine ⟨rfl,?_⟩|refine And.intro (by first|decide|exact trivial|exact ⟨_,rfl,rfl⟩|exact ⟨rfl,trivial⟩|exact ⟨rfl,rfl,trivial⟩) ?_
      conv => whnf
      refine ⟨_, tmvs_get (i := 1) (by omega), rfl, rfl, ?_⟩
      repeat (conv => whnf); first|refine IndepAnd (by kernel_rfl) ?_|refine ⟨rfl,?_⟩|refine And.intro (by first|decide|exact trivial|exact ⟨_,rfl,rfl⟩|exact ⟨rfl,trivial⟩|exact ⟨rfl,rfl,trivial⟩) ?_
      conv => whnf
      refine ⟨_, CallVC.pr t1 rfl rfl, ?_⟩
      repeat (conv => whnf); first|refine IndepAnd (by kernel_rfl) ?_|refine ⟨rfl,?_⟩|refine And.intro (by first|decide|exact trivial|exact ⟨_,rfl,rfl⟩|exact ⟨rfl,trivial⟩|exact ⟨rfl,rfl,trivial⟩) ?_
      conv => whnf
      refine LEP.of (congrArg PV.bool ?_)
      rw [eo, bl_total]
      rfl
theorem Right07_ok (b : Bool) (t : Tm) (hf : Fit t) (hw : wt t ≤ 1000000000) : K b 33 [tv t] (.pv (.bool (rightT t))) := by
  refine PC_of_vc (cx_ok b) (mixed b) {} Tryd.func33 (by kernel_rfl) rfl rfl (by kernel_rfl) ?_
  repeat (conv => whnf); first|refine IndepAnd (by kernel_rfl) ?_|refine ⟨rfl,?_⟩|refine And.intro (by first|decide|exact trivial|exact ⟨_,rfl,rfl⟩|exact ⟨rfl,trivial⟩|exact ⟨rfl,rfl,trivial⟩) ?_
  conv => whnf
  refine ⟨_, CallVC.pr (Text07_ok b t hf hw) rfl rfl, ?_⟩
  repeat (conv => whnf); first|refine IndepAnd (by kernel_rfl) ?_|refine ⟨rfl,?_⟩|refine And.intro (by first|decide|exact trivial|exact ⟨_,rfl,rfl⟩|exact ⟨rfl,trivial⟩|exact ⟨rfl,rfl,trivial⟩) ?_
  conv => whnf
  refine @bool_rec _ _ _ ?_ ?_ <;> intro h1
  · have h1 : txtT t ≠ [] := of_decide_eq_true h1
    have h2 := txt_ne.1 h1
    have e : rightT t = ordT t := by rw [rightT, (shpD_iff _ _).2 h2, Bool.true_and]
    rw [e]
    repeat (conv => whnf); first|refine IndepAnd (by kernel_rfl) ?_|refine ⟨rfl,?_⟩|refine And.intro (by first|decide|exact trivial|exact ⟨_,rfl,rfl⟩|exact ⟨rfl,trivial⟩|exact ⟨rfl,rfl,trivial⟩) ?_
    conv => whnf
    refine ⟨_, CallVC.pr (ordered07_ok b t hf h2.1 h2.2 hw) rfl rfl, ?_⟩
    repeat (conv => whnf); first|refine IndepAnd (by kernel_rfl) ?_|refine ⟨rfl,?_⟩|refine And.intro (by first|decide|exact trivial|exact ⟨_,rfl,rfl⟩|exact ⟨rfl,trivial⟩|exact ⟨rfl,rfl,trivial⟩) ?_
    conv => whnf
    exact LEP.refl _
  · have h1 : ¬ txtT t ≠ [] := of_decide_eq_false h1
    have e : rightT t = false := by
      have : ¬ shpD t 60 = true := fun h => h1 (txt_ne.2 ((shpD_iff _ _).1 h))
      rw [rightT, Bool.eq_false_iff.2 this, Bool.false_and]
    rw [e]
    repeat (conv => whnf); first|refine IndepAnd (by kernel_rfl) ?_|refine ⟨rfl,?_⟩|refine And.intro (by first|decide|exact trivial|exact ⟨_,rfl,rfl⟩|exact ⟨rfl,trivial⟩|exact ⟨rfl,rfl,trivial⟩) ?_
    conv => whnf
    exact LEP.refl _
/-! Canon -/
abbrev canS (t : Tm) : Nat → S
  | 0 => S.of [(1, .ptr 1 0), (2, .ptr 2 0), (3, .ptr 3 0), (4, iv 0)] [(1, .var true 24 (tv t)), (2, .var true 24 (.p tiTerm.zero)), (3, .var true 24 (.p (.agg [.int .i64 t.kind, .str t.name, .nilS])))]
  | i + 1 => S.of [(1, .ptr 1 0), (2, .ptr 2 0), (3, .ptr 3 0), (4, iv ((i + 1 : Nat) : Int))] [(1, .var true 24 (tv t)), (2, .var true 24 (.p tiTerm.zero)), (3, .var true 24 (.mix [.p (.int .i64 t.kind), .p (.str t.name), .slc 28])), (28, .row 24 3 (tmvs ((t.kids.take (i + 1)).map canT)))]
theorem canon07_ok (b : Bool) : ∀ t, Fit t → wt t ≤ 1000000000 → K b 32 [tv t] (.pv (TV (canT t))) := by
  intro t
  induction t using Tm.indk with
  | h t ih =>
  intro hf hw
  have hkl : t.kids.length ≤ 1000000000 := by have h1 := wt_eq t; have := kids_wt t.kids; omega
  have hcan := canT_eq t
  have eL : ∀ i, (hlt : i < t.kids.length) → tmvs ((t.kids.take i).map canT) ++ [TV (canT t.kids[i])] = tmvs ((t.kids.take (i + 1)).map canT) := fun i hlt => by
    rw [List.take_succ_eq_append_getElem hlt, List.map_append, tmvs_append, List.map_singleton, tmvs1]
  have hfin : (∀ x y, t.kids.map canT = [x, y] → ¬ (t.kind = 9 ∧ lessT y x = true)) → TV (.mk t.kind t.name (t.kids.map canT)) = TV (canT t) := by
    intro h
    rw [hcan]
    unfold swapT
    split
    · rename_i x y e
      rw [if_neg (h x y e), e]
    · rfl
  refine PC_of_vc (cx_ok b) (mixed b) { own := fun q => Nat.beq q 28 } Tryd.func32 (by kernel_rfl) rfl rfl (by kernel_rfl) ?_
  repeat (conv => whnf); first|refine IndepAnd (by kernel_rfl) ?_|refine TreeAnd (by kernel_rfl) ?_|refine ⟨rfl,?_⟩|refine And.intro (by first|decide|exact trivial|exact ⟨rfl,trivial⟩|exact Nat.le_of_ble_eq_true rfl|exact ⟨_,rfl,rfl⟩|exact ⟨rfl,rfl,trivial⟩|exact ⟨rfl,rfl,rfl,trivial⟩|exact ⟨rfl,rfl,rfl,rfl,trivial⟩|exact ⟨rfl,rfl,rfl,rfl,rfl,trivial⟩) ?_
  conv => whnf
  refine ⟨{ i : Nat // i ≤ t.kids.length }, fun i => canS t i.1, fun i => t.kids.length - i.1, ⟨0, Nat.zero_le _⟩, ?_, ?_⟩
  · refine Ge.of rfl ?_ ?_
    · repeat (conv => whnf); refine ⟨LE.of rfl, ?_⟩
      trivial
    · repeat (conv => whnf); refine ⟨OLE.of rfl, ?_⟩
      trivial
  rintro ⟨i, hi⟩
  cases i with
  | zero =>
    show vc _ _ _ _ (canS t (0))
    repeat (conv => whnf); first|refine IndepAnd (by kernel_rfl) ?_|refine TreeAnd (by kernel_rfl) ?_|refine ⟨rfl,?_⟩|refine And.intro (by first|decide|exact trivial|exact ⟨rfl,trivial⟩|exact Nat.le_of_ble_eq_true rfl|exact ⟨_,rfl,rfl⟩|exact ⟨rfl,rfl,trivial⟩|exact ⟨rfl,rfl,rfl,trivial⟩|exact ⟨rfl,rfl,rfl,rfl,trivial⟩|exact ⟨rfl,rfl,rfl,rfl,rfl,trivial⟩) ?_
    conv => whnf
    refine @bool_rec _ _ _ ?_ ?_ <;> intro h1
    · have hlt : 0 < t.kids.length := by have := of_decide_eq_true h1; rw [tmvs_length] at this; exact Int.ofNat_lt.1 this
      have hm := List.getElem_mem hlt
      repeat (conv => whnf); first|refine IndepAnd (by kernel_rfl) ?_|refine TreeAnd (by kernel_rfl) ?_|refine ⟨rfl,?_⟩|refine And.intro (by first|decide|exact trivial|exact ⟨rfl,trivial⟩|exact Nat.le_of_ble_eq_true rfl|exact ⟨_,rfl,rfl⟩|exact ⟨rfl,rfl,trivial⟩|exact ⟨rfl,rfl,rfl,trivial⟩|exact ⟨rfl,rfl,rfl,rfl,trivial⟩|exact ⟨rfl,rfl,rfl,rfl,rfl,trivial⟩) ?_
      conv => whnf
      refine ⟨TV t.kids[0], tmvs_getN hlt, rfl, rfl, ?_⟩
      repeat (conv => whnf); first|refine IndepAnd (by kernel_rfl) ?_|refine TreeAnd (by kernel_rfl) ?_|refine ⟨rfl,?_⟩|refine And.intro (by first|decide|exact trivial|exact ⟨rfl,trivial⟩|exact Nat.le_of_ble_eq_true rfl|exact ⟨_,rfl,rfl⟩|exact ⟨rfl,rfl,trivial⟩|exact ⟨rfl,rfl,rfl,trivial⟩|exact ⟨rfl,rfl,rfl,rfl,trivial⟩|exact ⟨rfl,rfl,rfl,rfl,rfl,trivial⟩) ?_
      conv => whnf
      refine ⟨_, CallVC.pr (ih t.kids[0] hm (hf.kid hm) (by have := wts_mem hm; have := wt_eq t; omega)) rfl rfl, ?_⟩
      repeat (conv => whnf); first|refine IndepAnd (by kernel_rfl) ?_|refine TreeAnd (by kernel_rfl) ?_|refine ⟨rfl,?_⟩|refine And.intro (by first|decide|exact trivial|exact ⟨rfl,trivial⟩|exact Nat.le_of_ble_eq_true rfl|exact ⟨_,rfl,rfl⟩|exact ⟨rfl,rfl,trivial⟩|exact ⟨rfl,rfl,rfl,trivial⟩|exact ⟨rfl,rfl,rfl,rfl,trivial⟩|exact ⟨rfl,rfl,rfl,rfl,rfl,trivial⟩) ?_
      conv => whnf
      refine ⟨_, wrapN (n := 1) rfl (by omega), ?_⟩
      repeat (conv => whnf); first|refine IndepAnd (by kernel_rfl) ?_|refine TreeAnd (by kernel_rfl) ?_|refine ⟨rfl,?_⟩|refine And.intro (by first|decide|exact trivial|exact ⟨rfl,trivial⟩|exact Nat.le_of_ble_eq_true rfl|exact ⟨_,rfl,rfl⟩|exact ⟨rfl,rfl,trivial⟩|exact ⟨rfl,rfl,rfl,trivial⟩|exact ⟨rfl,rfl,rfl,rfl,trivial⟩|exact ⟨rfl,rfl,rfl,rfl,rfl,trivial⟩) ?_
      conv => whnf
      refine ⟨⟨1, hlt⟩, ?_, by show t.kids.length - (1) < t.kids.length - (0); omega⟩
      refine Ge.of rfl ?_ ?_
      · repeat (conv => whnf); refine ⟨LE.of rfl, ?_⟩
        trivial
      · repeat (conv => whnf); first | refine ⟨OLE.of rfl, ?_⟩ | refine ⟨OLE.of (congrArg (AO.row 24 3) (eL (0) hlt)), ?_⟩
        trivial
    · have hge : t.kids = [] := List.eq_nil_of_length_eq_zero (by have h1 := of_decide_eq_false h1; rw [tmvs_length] at h1; have h1 : ¬ ((0 : Nat) : Int) < (t.kids.length : Int) := h1; omega)
      have e0 : TV (.mk t.kind t.name []) = TV (canT t) := by rw [hcan, hge]; rfl
      repeat (conv => whnf); first|refine IndepAnd (by kernel_rfl) ?_|refine TreeAnd (by kernel_rfl) ?_|refine ⟨rfl,?_⟩|refine And.intro (by first|decide|exact trivial|exact ⟨rfl,trivial⟩|exact Nat.le_of_ble_eq_true rfl|exact ⟨_,rfl,rfl⟩|exact ⟨rfl,rfl,trivial⟩|exact ⟨rfl,rfl,rfl,trivial⟩|exact ⟨rfl,rfl,rfl,rfl,trivial⟩|exact ⟨rfl,rfl,rfl,rfl,rfl,trivial⟩) ?_
      conv => whnf
      refine @bool_rec _ _ _ ?_ ?_ <;> intro h2
      · repeat (conv => whnf); first|refine IndepAnd (by kernel_rfl) ?_|refine TreeAnd (by kernel_rfl) ?_|refine ⟨rfl,?_⟩|refine And.intro (by first|decide|exact trivial|exact ⟨rfl,trivial⟩|exact Nat.le_of_ble_eq_true rfl|exact ⟨_,rfl,rfl⟩|exact ⟨rfl,rfl,trivial⟩|exact ⟨rfl,rfl,rfl,trivial⟩|exact ⟨rfl,rfl,rfl,rfl,trivial⟩|exact ⟨rfl,rfl,rfl,rfl,rfl,trivial⟩) ?_
        conv => whnf
        exact e0 ▸ LE_leaf t.kind t.name
      · repeat (conv => whnf); first|refine IndepAnd (by kernel_rfl) ?_|refine TreeAnd (by kernel_rfl) ?_|refine ⟨rfl,?_⟩|refine And.intro (by first|decide|exact trivial|exact ⟨rfl,trivial⟩|exact Nat.le_of_ble_eq_true rfl|exact ⟨_,rfl,rfl⟩|exact ⟨rfl,rfl,trivial⟩|exact ⟨rfl,rfl,rfl,trivial⟩|exact ⟨rfl,rfl,rfl,rfl,trivial⟩|exact ⟨rfl,rfl,rfl,rfl,rfl,trivial⟩) ?_
        conv => whnf
        exact e0 ▸ LE_leaf t.kind t.name
  | succ i =>
    show vc _ _ _ _ (canS t (i + 1))
    repeat (conv => whnf); first|refine IndepAnd (by kernel_rfl) ?_|refine TreeAnd (by kernel_rfl) ?_|refine ⟨rfl,?_⟩|refine And.intro (by first|decide|exact trivial|exact ⟨rfl,trivial⟩|exact Nat.le_of_ble_eq_true rfl|exact ⟨_,rfl,rfl⟩|exact ⟨rfl,rfl,trivial⟩|exact ⟨rfl,rfl,rfl,trivial⟩|exact ⟨rfl,rfl,rfl,rfl,trivial⟩|exact ⟨rfl,rfl,rfl,rfl,rfl,trivial⟩) ?_
    conv => whnf
    refine @bool_rec _ _ _ ?_ ?_ <;> intro h1
    · have hlt : i + 1 < t.kids.length := by have := of_decide_eq_true h1; rw [tmvs_length] at this; exact Int.ofNat_lt.1 this
      have hm := List.getElem_mem hlt
      repeat (conv => whnf); first|refine IndepAnd (by kernel_rfl) ?_|refine TreeAnd (by kernel_rfl) ?_|refine ⟨rfl,?_⟩|refine And.intro (by first|decide|exact trivial|exact ⟨rfl,trivial⟩|exact Nat.le_of_ble_eq_true rfl|exact ⟨_,rfl,rfl⟩|exact ⟨rfl,rfl,trivial⟩|exact ⟨rfl,rfl,rfl,trivial⟩|exact ⟨rfl,rfl,rfl,rfl,trivial⟩|exact ⟨rfl,rfl,rfl,rfl,rfl,trivial⟩) ?_
      conv => whnf
      refine ⟨Int.natCast_nonneg _, TV t.kids[i + 1], tmvs_getN hlt, rfl, rfl, ?_⟩
      repeat (conv => whnf); first|refine IndepAnd (by kernel_rfl) ?_|refine TreeAnd (by kernel_rfl) ?_|refine ⟨rfl,?_⟩|refine And.intro (by first|decide|exact trivial|exact ⟨rfl,trivial⟩|exact Nat.le_of_ble_eq_true rfl|exact ⟨_,rfl,rfl⟩|exact ⟨rfl,rfl,trivial⟩|exact ⟨rfl,rfl,rfl,trivial⟩|exact ⟨rfl,rfl,rfl,rfl,trivial⟩|exact ⟨rfl,rfl,rfl,rfl,rfl,trivial⟩) ?_
      conv => whnf
      refine ⟨_, CallVC.pr (ih t.kids[i + 1] hm (hf.kid hm) (by have := wts_mem hm; have := wt_eq t; omega)) rfl rfl, ?_⟩
      repeat (conv => whnf); first|refine IndepAnd (by kernel_rfl) ?_|refine TreeAnd (by kernel_rfl) ?_|refine ⟨rfl,?_⟩|refine And.intro (by first|decide|exact trivial|exact ⟨rfl,trivial⟩|exact Nat.le_of_ble_eq_true rfl|exact ⟨_,rfl,rfl⟩|exact ⟨rfl,rfl,trivial⟩|exact ⟨rfl,rfl,rfl,trivial⟩|exact ⟨rfl,rfl,rfl,rfl,trivial⟩|exact ⟨rfl,rfl,rfl,rfl,rfl,trivial⟩) ?_
      conv => whnf
      refine ⟨by show ((tmvs ((t.kids.take (i + 1)).map canT)).length + 1) * 48 ≤ _; rw [tmvs_length, List.length_map, List.length_take]; omega, ?_⟩
      repeat (conv => whnf); first|refine IndepAnd (by kernel_rfl) ?_|refine TreeAnd (by kernel_rfl) ?_|refine ⟨rfl,?_⟩|refine And.intro (by first|decide|exact trivial|exact ⟨rfl,trivial⟩|exact Nat.le_of_ble_eq_true rfl|exact ⟨_,rfl,rfl⟩|exact ⟨rfl,rfl,trivial⟩|exact ⟨rfl,rfl,rfl,trivial⟩|exact ⟨rfl,rfl,rfl,rfl,trivial⟩|exact ⟨rfl,rfl,rfl,rfl,rfl,trivial⟩) ?_
      conv => whnf
      refine ⟨_, wrapN (n := i + 1 + 1) rfl (by omega), ?_⟩
      repeat (conv => whnf); first|refine IndepAnd (by kernel_rfl) ?_|refine TreeAnd (by kernel_rfl) ?_|refine ⟨rfl,?_⟩|refine And.intro (by first|decide|exact trivial|exact ⟨rfl,trivial⟩|exact Nat.le_of_ble_eq_true rfl|exact ⟨_,rfl,rfl⟩|exact ⟨rfl,rfl,trivial⟩|exact ⟨rfl,rfl,rfl,trivial⟩|exact ⟨rfl,rfl,rfl,rfl,trivial⟩|exact ⟨rfl,rfl,rfl,rfl,rfl,trivial⟩) ?_
      conv => whnf
      refine ⟨⟨i + 1 + 1, hlt⟩, ?_, by show t.kids.length - (i + 1 + 1) < t.kids.length - (i + 1); omega⟩
      refine Ge.of rfl ?_ ?_
      · repeat (conv => whnf); refine ⟨LE.of rfl, ?_⟩
        trivial
      · repeat (conv => whnf); first | refine ⟨OLE.of rfl, ?_⟩ | refine ⟨OLE.of (congrArg (AO.row 24 3) (eL (i + 1) hlt)), ?_⟩
        trivial
    · have hge : t.kids.take (i + 1) = t.kids := List.take_of_length_le (by have h1 := of_decide_eq_false h1; rw [tmvs_length] at h1; have h1 : ¬ ((i + 1 : Nat) : Int) < (t.kids.length : Int) := h1; omega)
      show vc _ _ _ _ _
      rw [hge]
      repeat (conv => whnf); first|refine IndepAnd (by kernel_rfl) ?_|refine TreeAnd (by kernel_rfl) ?_|refine ⟨rfl,?_⟩|refine And.intro (by first|decide|exact trivial|exact ⟨rfl,trivial⟩|exact Nat.le_of_ble_eq_true rfl|exact ⟨_,rfl,rfl⟩|exact ⟨rfl,rfl,trivial⟩|exact ⟨rfl,rfl,rfl,trivial⟩|exact ⟨rfl,rfl,rfl,rfl,trivial⟩|exact ⟨rfl,rfl,rfl,rfl,rfl,trivial⟩) ?_
      conv => whnf
      refine @bool_rec _ _ _ ?_ ?_ <;> intro h2
      · have h2 : t.kind = 9 := of_decide_eq_true h2
        repeat (conv => whnf); first|refine IndepAnd (by kernel_rfl) ?_|refine TreeAnd (by kernel_rfl) ?_|refine ⟨rfl,?_⟩|refine And.intro (by first|decide|exact trivial|exact ⟨rfl,trivial⟩|exact Nat.le_of_ble_eq_true rfl|exact ⟨_,rfl,rfl⟩|exact ⟨rfl,rfl,trivial⟩|exact ⟨rfl,rfl,rfl,trivial⟩|exact ⟨rfl,rfl,rfl,rfl,trivial⟩|exact ⟨rfl,rfl,rfl,rfl,rfl,trivial⟩) ?_
        conv => whnf
        refine @bool_rec _ _ _ ?_ ?_ <;> intro h3
        · have h3 : (t.kids.map canT).length = 2 := by have := of_decide_eq_true h3; rw [tmvs_length] at this; exact Int.ofNat_inj.1 this
          obtain ⟨x, y, hxy⟩ : ∃ x y, t.kids.map canT = [x, y] := by
            match t.kids.map canT, h3 with
            | [x, y], _ => exact ⟨x, y, rfl⟩
          have hrow : tmvs (t.kids.map canT) = [TV x, TV y] := by rw [hxy]; exact (tmvs2 x y).symm
          have hmem : ∀ u ∈ t.kids.map canT, Fit u ∧ wt u ≤ 1000000000 := fun u hu => by
            obtain ⟨v, hv, rfl⟩ := List.mem_map.1 hu
            exact ⟨can_fit v (hf.kid hv), by rw [can_wt]; have := wts_mem hv; have := wt_eq t; omega⟩
          have hx := hmem x (by rw [hxy]; simp)
          have hy := hmem y (by rw [hxy]; simp)
          rw [hrow]
          repeat (conv => whnf); first|refine IndepAnd (by kernel_rfl) ?_|refine TreeAnd (by kernel_rfl) ?_|refine ⟨rfl,?_⟩|refine And.intro (by first|decide|exact trivial|exact ⟨rfl,trivial⟩|exact Nat.le_of_ble_eq_true rfl|exact ⟨_,rfl,rfl⟩|exact ⟨rfl,rfl,trivial⟩|exact ⟨rfl,rfl,rfl,trivial⟩|exact ⟨rfl,rfl,rfl,rfl,trivial⟩|exact ⟨rfl,rfl,rfl,rfl,rfl,trivial⟩) ?_
          conv => whnf
          refine ⟨TV y, rfl, rfl, rfl, rfl, ?_⟩
          repeat (conv => whnf); first|refine IndepAnd (by kernel_rfl) ?_|refine TreeAnd (by kernel_rfl) ?_|refine ⟨rfl,?_⟩|refine And.intro (by first|decide|exact trivial|exact ⟨rfl,trivial⟩|exact Nat.le_of_ble_eq_true rfl|exact ⟨_,rfl,rfl⟩|exact ⟨rfl,rfl,trivial⟩|exact ⟨rfl,rfl,rfl,trivial⟩|exact ⟨rfl,rfl,rfl,rfl,trivial⟩|exact ⟨rfl,rfl,rfl,rfl,rfl,trivial⟩) ?_
          conv => whnf
          refine ⟨_, CallVC.pr (Text07_ok b y hy.1 hy.2) rfl rfl, ?_⟩
          repeat (conv => whnf); first|refine IndepAnd (by kernel_rfl) ?_|refine TreeAnd (by kernel_rfl) ?_|refine ⟨rfl,?_⟩|refine And.intro (by first|decide|exact trivial|exact ⟨rfl,trivial⟩|exact Nat.le_of_ble_eq_true rfl|exact ⟨_,rfl,rfl⟩|exact ⟨rfl,rfl,trivial⟩|exact ⟨rfl,rfl,rfl,trivial⟩|exact ⟨rfl,rfl,rfl,rfl,trivial⟩|exact ⟨rfl,rfl,rfl,rfl,rfl,trivial⟩) ?_
          conv => whnf
          refine ⟨TV x, rfl, rfl, rfl, rfl, ?_⟩
          repeat (conv => whnf); first|refine IndepAnd (by kernel_rfl) ?_|refine TreeAnd (by kernel_rfl) ?_|refine ⟨rfl,?_⟩|refine And.intro (by first|decide|exact trivial|exact ⟨rfl,trivial⟩|exact Nat.le_of_ble_eq_true rfl|exact ⟨_,rfl,rfl⟩|exact ⟨rfl,rfl,trivial⟩|exact ⟨rfl,rfl,rfl,trivial⟩|exact ⟨rfl,rfl,rfl,rfl,trivial⟩|exact ⟨rfl,rfl,rfl,rfl,rfl,trivial⟩) ?_
          conv => whnf
          refine ⟨_, CallVC.pr (Text07_ok b x hx.1 hx.2) rfl rfl, ?_⟩
          repeat (conv => whnf); first|refine IndepAnd (by kernel_rfl) ?_|refine TreeAnd (by kernel_rfl) ?_|refine ⟨rfl,?_⟩|refine And.intro (by first|decide|exact trivial|exact ⟨rfl,trivial⟩|exact Nat.le_of_ble_eq_true rfl|exact ⟨_,rfl,rfl⟩|exact ⟨rfl,rfl,trivial⟩|exact ⟨rfl,rfl,rfl,trivial⟩|exact ⟨rfl,rfl,rfl,rfl,trivial⟩|exact ⟨rfl,rfl,rfl,rfl,rfl,trivial⟩) ?_
          conv => whnf
          refine @bool_rec _ _ _ ?_ ?_ <;> intro h4
          · have h4 : lessT y x = true := h4
            repeat (conv => whnf); first|refine IndepAnd (by kernel_rfl) ?_|refine TreeAnd (by kernel_rfl) ?_|refine ⟨rfl,?_⟩|refine And.intro (by first|decide|exact trivial|exact ⟨rfl,trivial⟩|exact Nat.le_of_ble_eq_true rfl|exact ⟨_,rfl,rfl⟩|exact ⟨rfl,rfl,trivial⟩|exact ⟨rfl,rfl,rfl,trivial⟩|exact ⟨rfl,rfl,rfl,rfl,trivial⟩|exact ⟨rfl,rfl,rfl,rfl,rfl,trivial⟩) ?_
            conv => whnf
            refine ⟨TV y, rfl, rfl, rfl, rfl, ?_⟩
            repeat (conv => whnf); first|refine IndepAnd (by kernel_rfl) ?_|refine TreeAnd (by kernel_rfl) ?_|refine ⟨rfl,?_⟩|refine And.intro (by first|decide|exact trivial|exact ⟨rfl,trivial⟩|exact Nat.le_of_ble_eq_true rfl|exact ⟨_,rfl,rfl⟩|exact ⟨rfl,rfl,trivial⟩|exact ⟨rfl,rfl,rfl,trivial⟩|exact ⟨rfl,rfl,rfl,rfl,trivial⟩|exact ⟨rfl,rfl,rfl,rfl,rfl,trivial⟩) ?_
            conv => whnf
            refine ⟨TV x, rfl, rfl, rfl, rfl, ?_⟩
            repeat (conv => whnf); first|refine IndepAnd (by kernel_rfl) ?_|refine TreeAnd (by kernel_rfl) ?_|refine ⟨rfl,?_⟩|refine And.intro (by first|decide|exact trivial|exact ⟨rfl,trivial⟩|exact Nat.le_of_ble_eq_true rfl|exact ⟨_,rfl,rfl⟩|exact ⟨rfl,rfl,trivial⟩|exact ⟨rfl,rfl,rfl,trivial⟩|exact ⟨rfl,rfl,rfl,rfl,trivial⟩|exact ⟨rfl,rfl,rfl,rfl,rfl,trivial⟩) ?_
            conv => whnf
            refine LEP.of ((mk_eq (tmvs2 y x)).trans (congrArg TV ?_))
            rw [hcan, hxy]
            exact (if_pos ⟨h2, h4⟩).symm
          · have h4 : lessT y x = false := h4
            repeat (conv => whnf); first|refine IndepAnd (by kernel_rfl) ?_|refine TreeAnd (by kernel_rfl) ?_|refine ⟨rfl,?_⟩|refine And.intro (by first|decide|exact trivial|exact ⟨rfl,trivial⟩|exact Nat.le_of_ble_eq_true rfl|exact ⟨_,rfl,rfl⟩|exact ⟨rfl,rfl,trivial⟩|exact ⟨rfl,rfl,rfl,trivial⟩|exact ⟨rfl,rfl,rfl,rfl,trivial⟩|exact ⟨rfl,rfl,rfl,rfl,rfl,trivial⟩) ?_
            conv => whnf
            refine LEP.of (Eq.trans ?_ (hfin fun x' y' e h => by
              rw [hxy] at e
              cases e
              rw [h4] at h
              cases h.2))
            rw [hxy]
            exact mk_eq (tmvs2 x y)
        · have h3 : ¬ (t.kids.map canT).length = 2 := by have := of_decide_eq_false h3; rw [tmvs_length] at this; exact fun e => this (congrArg Int.ofNat e)
          repeat (conv => whnf); first|refine IndepAnd (by kernel_rfl) ?_|refine TreeAnd (by kernel_rfl) ?_|refine ⟨rfl,?_⟩|refine And.intro (by first|decide|exact trivial|exact ⟨rfl,trivial⟩|exact Nat.le_of_ble_eq_true rfl|exact ⟨_,rfl,rfl⟩|exact ⟨rfl,rfl,trivial⟩|exact ⟨rfl,rfl,rfl,trivial⟩|exact ⟨rfl,rfl,rfl,rfl,trivial⟩|exact ⟨rfl,rfl,rfl,rfl,rfl,trivial⟩) ?_
          conv => whnf
          exact LEP.of (hfin fun x y e => absurd (congrArg List.length e) h3)
      · have h2 : ¬ t.kind = 9 := of_decide_eq_false h2
        repeat (conv => whnf); first|refine IndepAnd (by kernel_rfl) ?_|refine TreeAnd (by kernel_rfl) ?_|refine ⟨rfl,?_⟩|refine And.intro (by first|decide|exact trivial|exact ⟨rfl,trivial⟩|exact Nat.le_of_ble_eq_true rfl|exact ⟨_,rfl,rfl⟩|exact ⟨rfl,rfl,trivial⟩|exact ⟨rfl,rfl,rfl,trivial⟩|exact ⟨rfl,rfl,rfl,rfl,trivial⟩|exact ⟨rfl,rfl,rfl,rfl,rfl,trivial⟩) ?_
        conv => whnf
        exact LEP.of (hfin fun x y e h => h2 h.1)
end Go.Sl
/- short -/
namespace Go.Sl
open Go Go.Vc Go.Proofs Go.RowKit

/-- Terms that can be looked at. -/
structure Okl (l : List Tm) : Prop where
  fit : ∀ t ∈ l, Fit t
  wt : ∀ t ∈ l, Sl.wt t ≤ 1000000000
  len : l.length ≤ 1000000
theorem frS_okl {out : List Tm} {v : Tm} (h : ∀ t ∈ out, Fit t ∧ wt t ≤ 1000000000) (hf : Fit v) (hw : wt v ≤ 1000000000) : ∀ t ∈ frS out v, Fit t ∧ wt t ≤ 1000000000 := by
  unfold frS
  split
  · intro t ht
    rcases mem_with.1 ht with ht | rfl
    · exact h t ht
    · exact ⟨can_fit v hf, by rw [can_wt]; exact hw⟩
  · exact h
theorem frR_okt {l : List Tm} (hf : ∀ t ∈ l, Fit t) (hw : ∀ t ∈ l, wt t ≤ 1000000000) : ∀ t ∈ frR l, Fit t ∧ wt t ≤ 1000000000 := fun t ht => by
  obtain ⟨v, hv, rfl⟩ := frR_src ht
  exact ⟨can_fit v (hf v hv), by rw [can_wt]; exact hw v hv⟩
theorem Okl.fr {l : List Tm} (h : Okl l) : Okl (frR l) := ⟨fun t ht => (frR_okt h.fit h.wt t ht).1, fun t ht => (frR_okt h.fit h.wt t ht).2, Nat.le_trans (frR_len l) h.len⟩
theorem frame8_ok (b : Bool) (l : List Tm) (h : Okl l) : K b 30 [lv l] (.pv (.lst (tmvs (frR l)))) := by
  have hl := h.len
  refine PC_of_vc (cx_ok b) (mixed b) {} Tryd.func30 (by kernel_rfl) rfl rfl (by kernel_rfl) ?_
  repeat (conv => whnf); first|refine IndepAnd (by kernel_rfl) ?_|refine ⟨rfl,?_⟩|refine And.intro (by first|decide|exact trivial|exact ⟨_,rfl,rfl⟩|exact ⟨rfl,trivial⟩|exact ⟨rfl,rfl,trivial⟩) ?_
  conv => whnf
  refine ⟨{ i : Nat // i ≤ l.length }, fun i => S.of [(0, lv l), (2, .p .nilS), (3, lv (frR (l.take i.1))), (4, iv i.1)] [], fun i => l.length - i.1, ⟨0, Nat.zero_le _⟩, ?_, ?_⟩
  · refine Ge.of rfl ?_ ?_
    · repeat (conv => whnf); refine ⟨LE.of rfl, ?_⟩
      trivial
    · repeat (conv => whnf); refine ⟨OLE.of rfl, ?_⟩
      trivial
  rintro ⟨i, hi⟩
  repeat (conv => whnf); first|refine IndepAnd (by kernel_rfl) ?_|refine ⟨rfl,?_⟩|refine And.intro (by first|decide|exact trivial|exact ⟨_,rfl,rfl⟩|exact ⟨rfl,trivial⟩|exact ⟨rfl,rfl,trivial⟩) ?_
  conv => whnf
  refine @bool_rec _ _ _ ?_ ?_ <;> intro h1
  · have hlt : i < l.length := by have := of_decide_eq_true h1; rw [tmvs_length] at this; exact Int.ofNat_lt.1 this
    have hm := List.getElem_mem hlt
    have et := frR_take hlt
    have hfl := frR_len (l.take i)
    have htk : (l.take i).length ≤ l.length := by rw [List.length_take]; omega
    have hof := frR_okt (l := l.take i) (fun t ht => h.fit t (List.mem_of_mem_take ht)) (fun t ht => h.wt t (List.mem_of_mem_take ht))
    unfold frS at et
    repeat (conv => whnf); first|refine IndepAnd (by kernel_rfl) ?_|refine ⟨rfl,?_⟩|refine And.intro (by first|decide|exact trivial|exact ⟨_,rfl,rfl⟩|exact ⟨rfl,trivial⟩|exact ⟨rfl,rfl,trivial⟩) ?_
    conv => whnf
    refine ⟨Int.natCast_nonneg _, TV l[i], tmvs_getN hlt, rfl, rfl, ?_⟩
    repeat (conv => whnf); first|refine IndepAnd (by kernel_rfl) ?_|refine ⟨rfl,?_⟩|refine And.intro (by first|decide|exact trivial|exact ⟨_,rfl,rfl⟩|exact ⟨rfl,trivial⟩|exact ⟨rfl,rfl,trivial⟩) ?_
    conv => whnf
    refine ⟨_, CallVC.pr (canon07_ok b l[i] (h.fit _ hm) (h.wt _ hm)) rfl rfl, ?_⟩
    repeat (conv => whnf); first|refine IndepAnd (by kernel_rfl) ?_|refine ⟨rfl,?_⟩|refine And.intro (by first|decide|exact trivial|exact ⟨_,rfl,rfl⟩|exact ⟨rfl,trivial⟩|exact ⟨rfl,rfl,trivial⟩) ?_
    conv => whnf
    refine ⟨_, CallVC.pr (Right07_ok b (canT l[i]) (can_fit _ (h.fit _ hm)) (by rw [can_wt]; exact h.wt _ hm)) rfl rfl, ?_⟩
    repeat (conv => whnf); first|refine IndepAnd (by kernel_rfl) ?_|refine ⟨rfl,?_⟩|refine And.intro (by first|decide|exact trivial|exact ⟨_,rfl,rfl⟩|exact ⟨rfl,trivial⟩|exact ⟨rfl,rfl,trivial⟩) ?_
    conv => whnf
    refine @bool_rec _ _ _ ?_ ?_ <;> intro h2
    · have h2 : rightT (canT l[i]) = true := h2
      rw [if_pos h2] at et
      repeat (conv => whnf); first|refine IndepAnd (by kernel_rfl) ?_|refine ⟨rfl,?_⟩|refine And.intro (by first|decide|exact trivial|exact ⟨_,rfl,rfl⟩|exact ⟨rfl,trivial⟩|exact ⟨rfl,rfl,trivial⟩) ?_
      conv => whnf
      refine ⟨_, CallVC.pr (with_ok b (frR (l.take i)) (canT l[i]) (by omega) (fun u hu => (hof u hu).1)) rfl rfl, ?_⟩
      repeat (conv => whnf); first|refine IndepAnd (by kernel_rfl) ?_|refine ⟨rfl,?_⟩|refine And.intro (by first|decide|exact trivial|exact ⟨_,rfl,rfl⟩|exact ⟨rfl,trivial⟩|exact ⟨rfl,rfl,trivial⟩) ?_
      conv => whnf
      refine ⟨_, wrapN (n := i + 1) rfl (by omega), ?_⟩
      repeat (conv => whnf); first|refine IndepAnd (by kernel_rfl) ?_|refine ⟨rfl,?_⟩|refine And.intro (by first|decide|exact trivial|exact ⟨_,rfl,rfl⟩|exact ⟨rfl,trivial⟩|exact ⟨rfl,rfl,trivial⟩) ?_
      conv => whnf
      refine ⟨⟨i + 1, hlt⟩, ?_, by show l.length - (i + 1) < l.length - i; omega⟩
      refine Ge.of rfl ?_ ?_
      · repeat (conv => whnf); first | refine ⟨LE.of rfl, ?_⟩ | refine ⟨LE.of (congrArg (fun l => SV.p (PV.lst (tmvs l))) et.symm), ?_⟩
        trivial
      · repeat (conv => whnf); refine ⟨OLE.of rfl, ?_⟩
        trivial
    · have h2 : rightT (canT l[i]) = false := h2
      rw [if_neg (by rw [h2]; decide)] at et
      repeat (conv => whnf); first|refine IndepAnd (by kernel_rfl) ?_|refine ⟨rfl,?_⟩|refine And.intro (by first|decide|exact trivial|exact ⟨_,rfl,rfl⟩|exact ⟨rfl,trivial⟩|exact ⟨rfl,rfl,trivial⟩) ?_
      conv => whnf
      refine ⟨_, wrapN (n := i + 1) rfl (by omega), ?_⟩
      repeat (conv => whnf); first|refine IndepAnd (by kernel_rfl) ?_|refine ⟨rfl,?_⟩|refine And.intro (by first|decide|exact trivial|exact ⟨_,rfl,rfl⟩|exact ⟨rfl,trivial⟩|exact ⟨rfl,rfl,trivial⟩) ?_
      conv => whnf
      refine ⟨⟨i + 1, hlt⟩, ?_, by show l.length - (i + 1) < l.length - i; omega⟩
      refine Ge.of rfl ?_ ?_
      · repeat (conv => whnf); first | refine ⟨LE.of rfl, ?_⟩ | refine ⟨LE.of (congrArg (fun l => SV.p (PV.lst (tmvs l))) et.symm), ?_⟩
        trivial
      · repeat (conv => whnf); refine ⟨OLE.of rfl, ?_⟩
        trivial
  · have hge : l.take i = l := List.take_of_length_le (by have := of_decide_eq_false h1; rw [tmvs_length] at this; have h5 : ¬ ((i : Int) < l.length) := this; omega)
    repeat (conv => whnf); first|refine IndepAnd (by kernel_rfl) ?_|refine ⟨rfl,?_⟩|refine And.intro (by first|decide|exact trivial|exact ⟨_,rfl,rfl⟩|exact ⟨rfl,trivial⟩|exact ⟨rfl,rfl,trivial⟩) ?_
    conv => whnf
    exact LEP.of (congrArg (fun l => PV.lst (tmvs l)) (by show frR (l.take i) = frR l; rw [hge]))
theorem pub8_ok (b : Bool) (t : Tm) : K b 35 [tv t] (.pv (TV (pubT t))) := by
  refine PC_of_vc (cx_ok b) (mixed b) {} Tryd.func35 (by kernel_rfl) rfl rfl (by kernel_rfl) ?_
  repeat (conv => whnf); first|refine IndepAnd (by kernel_rfl) ?_|refine ⟨rfl,?_⟩|refine And.intro (by first|decide|exact trivial|exact ⟨_,rfl,rfl⟩|exact ⟨rfl,trivial⟩|exact ⟨rfl,rfl,trivial⟩) ?_
  conv => whnf
  exact LEP.of (mk_eq (tmvs1 t))
/-- Are all of some terms in a list? -/
def allR (l some : List Tm) : Bool := some.all fun u => decide (u ∈ l)
theorem all8_ok (b : Bool) (l some : List Tm) (hl : l.length ≤ 1000000000) (hf : ∀ u ∈ l, Fit u) (hs : some.length ≤ 9223372036854775807) : K b 37 [lv l, lv some] (.pv (.bool (allR l some))) := by
  refine PC_of_vc (cx_ok b) (mixed b) {} Tryd.func37 (by kernel_rfl) rfl rfl (by kernel_rfl) ?_
  repeat (conv => whnf); first|refine IndepAnd (by kernel_rfl) ?_|refine ⟨rfl,?_⟩|refine And.intro (by first|decide|exact trivial|exact ⟨_,rfl,rfl⟩|exact ⟨rfl,trivial⟩|exact ⟨rfl,rfl,trivial⟩) ?_
  conv => whnf
  refine ⟨{ i : Nat // i ≤ some.length ∧ allR l (some.take i) = true }, fun i => S.of [(0, lv l), (1, lv some), (4, .p (.bool false)), (5, iv i.1)] [], fun i => some.length - i.1, ⟨0, Nat.zero_le _, rfl⟩, ?_, ?_⟩
  · refine Ge.of rfl ?_ ?_
    · repeat (conv => whnf); refine ⟨LE.of rfl, ?_⟩
      trivial
    · repeat (conv => whnf); refine ⟨OLE.of rfl, ?_⟩
      trivial
  rintro ⟨i, hi, ha⟩
  have ha : allR l (some.take i) = true := ha
  repeat (conv => whnf); first|refine IndepAnd (by kernel_rfl) ?_|refine ⟨rfl,?_⟩|refine And.intro (by first|decide|exact trivial|exact ⟨_,rfl,rfl⟩|exact ⟨rfl,trivial⟩|exact ⟨rfl,rfl,trivial⟩) ?_
  conv => whnf
  refine @bool_rec _ _ _ ?_ ?_ <;> intro h1
  · have hlt : i < some.length := by have := of_decide_eq_true h1; rw [tmvs_length] at this; exact Int.ofNat_lt.1 this
    have hm := List.getElem_mem hlt
    repeat (conv => whnf); first|refine IndepAnd (by kernel_rfl) ?_|refine ⟨rfl,?_⟩|refine And.intro (by first|decide|exact trivial|exact ⟨_,rfl,rfl⟩|exact ⟨rfl,trivial⟩|exact ⟨rfl,rfl,trivial⟩) ?_
    conv => whnf
    refine ⟨Int.natCast_nonneg _, TV some[i], tmvs_getN hlt, rfl, rfl, ?_⟩
    repeat (conv => whnf); first|refine IndepAnd (by kernel_rfl) ?_|refine ⟨rfl,?_⟩|refine And.intro (by first|decide|exact trivial|exact ⟨_,rfl,rfl⟩|exact ⟨rfl,trivial⟩|exact ⟨rfl,rfl,trivial⟩) ?_
    conv => whnf
    refine ⟨_, CallVC.pr (has_ok b l some[i] (by omega) hf) rfl rfl, ?_⟩
    repeat (conv => whnf); first|refine IndepAnd (by kernel_rfl) ?_|refine ⟨rfl,?_⟩|refine And.intro (by first|decide|exact trivial|exact ⟨_,rfl,rfl⟩|exact ⟨rfl,trivial⟩|exact ⟨rfl,rfl,trivial⟩) ?_
    conv => whnf
    refine @bool_rec _ _ _ ?_ ?_ <;> intro h2
    · have h2 : ¬ some[i] ∈ l := by have h2 : (!decide (some[i] ∈ l)) = true := h2; simpa using h2
      have e : allR l some = false := by unfold allR; rw [List.all_eq_false]; exact ⟨_, hm, by simpa using h2⟩
      repeat (conv => whnf); first|refine IndepAnd (by kernel_rfl) ?_|refine ⟨rfl,?_⟩|refine And.intro (by first|decide|exact trivial|exact ⟨_,rfl,rfl⟩|exact ⟨rfl,trivial⟩|exact ⟨rfl,rfl,trivial⟩) ?_
      conv => whnf
      exact LEP.of (congrArg PV.bool e.symm)
    · have h2 : some[i] ∈ l := by have h2 : (!decide (some[i] ∈ l)) = false := h2; simpa using h2
      repeat (conv => whnf); first|refine IndepAnd (by kernel_rfl) ?_|refine ⟨rfl,?_⟩|refine And.intro (by first|decide|exact trivial|exact ⟨_,rfl,rfl⟩|exact ⟨rfl,trivial⟩|exact ⟨rfl,rfl,trivial⟩) ?_
      conv => whnf
      refine ⟨_, wrapN (n := i + 1) rfl (by omega), ?_⟩
      repeat (conv => whnf); first|refine IndepAnd (by kernel_rfl) ?_|refine ⟨rfl,?_⟩|refine And.intro (by first|decide|exact trivial|exact ⟨_,rfl,rfl⟩|exact ⟨rfl,trivial⟩|exact ⟨rfl,rfl,trivial⟩) ?_
      conv => whnf
      refine ⟨⟨i + 1, hlt, ?_⟩, ?_, by show some.length - (i + 1) < some.length - i; omega⟩
      · unfold allR at ha ⊢
        rw [List.take_succ_eq_append_getElem hlt, List.all_append, ha]
        simp [h2]
      · refine Ge.of rfl ?_ ?_
        · repeat (conv => whnf); refine ⟨LE.of rfl, ?_⟩
          trivial
        · repeat (conv => whnf); refine ⟨OLE.of rfl, ?_⟩
          trivial
  · have hge : some.take i = some := List.take_of_length_le (by have := of_decide_eq_false h1; rw [tmvs_length] at this; have h5 : ¬ ((i : Int) < some.length) := this; omega)
    rw [hge] at ha
    repeat (conv => whnf); first|refine IndepAnd (by kernel_rfl) ?_|refine ⟨rfl,?_⟩|refine And.intro (by first|decide|exact trivial|exact ⟨_,rfl,rfl⟩|exact ⟨rfl,trivial⟩|exact ⟨rfl,rfl,trivial⟩) ?_
    conv => whnf
    exact LEP.of (congrArg PV.bool ha.symm)
end Go.Sl
