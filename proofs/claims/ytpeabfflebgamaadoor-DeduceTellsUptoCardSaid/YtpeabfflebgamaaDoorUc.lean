/- The document's answer for layer 8 in plain theory: which terms are made, found out round by round. -/
import Derived.Test.YtpeabfflebgamaaDoorQg
set_option linter.unusedVariables false
set_option linter.unusedSimpArgs false
namespace Go.Sl
open Go Go.Vc Go.Proofs Go.RowKit

/-! A frame, as it counts. -/
def frS (out : List Tm) (v : Tm) : List Tm := if rightT (canT v) = true then withT out (canT v) else out
def frR (l : List Tm) : List Tm := l.foldl frS []
theorem right_can {v : Tm} : rightT (canT v) = true ↔ txtT (canT v) ≠ [] := ⟨fun h => (gd_right h).1, fun h => right_gd ⟨h, can_can v⟩⟩
theorem adds_fr : ∀ (m : List Tm) (k : Kn), k.s = k.l.map txtT → (∀ t ∈ k.l, txtT t ≠ []) → (m.foldl addT k).l = m.foldl frS k.l
  | [], k, _, _ => rfl
  | v :: m, k, hs, hn => by
    rw [List.foldl_cons, List.foldl_cons]
    have e : (addT k v).l = frS k.l v ∧ (addT k v).s = (addT k v).l.map txtT ∧ ∀ t ∈ (addT k v).l, txtT t ≠ [] := by
      unfold addT frS withT
      by_cases h1 : txtT (canT v) = []
      · rw [if_pos (.inl h1), if_neg (fun h => right_can.1 h h1)]
        exact ⟨rfl, hs, hn⟩
      · rw [if_pos (right_can.2 h1)]
        have hm := mem_txt hn h1
        by_cases h2 : canT v ∈ k.l
        · rw [if_pos (.inr (by rw [hs]; exact hm.2 h2)), if_pos h2]
          exact ⟨rfl, hs, hn⟩
        · rw [if_neg (by rw [hs]; exact fun h => h.elim h1 fun h => h2 (hm.1 h)), if_neg h2]
          refine ⟨rfl, by simp [hs], fun t ht => ?_⟩
          rcases List.mem_append.1 ht with ht | ht
          · exact hn t ht
          · rw [List.mem_singleton.1 ht]; exact h1
    rw [adds_fr m _ e.2.1 e.2.2, e.1]
theorem frR_of (l : List Tm) : frR l = (ofT l).l := (adds_fr l ⟨[], [], []⟩ rfl (fun t h => by cases h)).symm
theorem frR_take {l : List Tm} {i : Nat} (h : i < l.length) : frR (l.take (i + 1)) = frS (frR (l.take i)) l[i] := by
  rw [List.take_succ_eq_append_getElem h]
  unfold frR
  rw [List.foldl_append]
  rfl
theorem frS_gd {out : List Tm} {v : Tm} (h : gdT v) : frS out v = withT out v := by
  unfold frS
  rw [h.2, if_pos (right_gd h)]
theorem adds_with (k : Kn) (hs : k.s = k.l.map txtT) (hn : ∀ t ∈ k.l, txtT t ≠ []) (m : List Tm) (hm : ∀ t ∈ m, gdT t) : (m.foldl addT k).l = m.foldl withT k.l := by
  rw [adds_fr m k hs hn]
  generalize k.l = out
  induction m generalizing out with
  | nil => rfl
  | cons v m ih =>
    rw [List.foldl_cons, List.foldl_cons, frS_gd (hm v (List.mem_cons_self ..))]
    exact ih (fun t ht => hm t (List.mem_cons_of_mem _ ht)) _
theorem frR_gd {l : List Tm} {t : Tm} (h : t ∈ frR l) : gdT t := by rw [frR_of, ofT_in] at h; exact h.2
theorem frR_len (l : List Tm) : (frR l).length ≤ l.length := by
  rw [frR_of]
  have := foldl_add_len l ⟨[], [], []⟩
  simpa [ofT] using this
theorem frR_mk {l : List Tm} {t : Tm} : Mk (· ∈ frR l) t ↔ Mk (Fr l) t :=
  Mk.congr fun u hg => by rw [frR_of, ofT_in]; exact ⟨fun h => h.1, fun h => ⟨h, hg⟩⟩
theorem frR_src {l : List Tm} {t : Tm} (h : t ∈ frR l) : ∃ v ∈ l, canT v = t := by
  rw [frR_of, ofT_in] at h
  exact h.1

/-! What is asked. -/
/-- The points of a share's exponents, to a list. -/
def shP (acc : List Tm) (t : Tm) : List Tm :=
  if t.kind = 9 then (match t.kids with | [x, y] => withT (withT acc (pubT x)) (pubT y) | _ => acc) else acc
def todoR (g : Tm) : List Tm := (subR g []).foldl shP (subR g [])
theorem shP_mem {acc : List Tm} {t u : Tm} : u ∈ shP acc t ↔ u ∈ acc ∨ (t.kind = 9 ∧ ∃ x y, t.kids = [x, y] ∧ (u = pubT x ∨ u = pubT y)) := by
  unfold shP
  by_cases h : t.kind = 9
  · rw [if_pos h]
    split
    · rename_i x y e
      rw [mem_with, mem_with, or_assoc]
      refine or_congr_right ⟨fun h' => ⟨h, x, y, e, h'⟩, ?_⟩
      rintro ⟨_, x', y', e', h'⟩
      rw [e] at e'
      cases e'
      exact h'
    · rename_i hn
      refine ⟨.inl, ?_⟩
      rintro (h' | ⟨_, x, y, e, _⟩)
      · exact h'
      · exact absurd e (hn x y)
  · rw [if_neg h]
    exact ⟨.inl, fun h' => h'.elim id fun h' => absurd h'.1 h⟩
theorem shPs_mem {u : Tm} : ∀ (m acc : List Tm), u ∈ m.foldl shP acc ↔ u ∈ acc ∨ ∃ t ∈ m, t.kind = 9 ∧ ∃ x y, t.kids = [x, y] ∧ (u = pubT x ∨ u = pubT y)
  | [], acc => by simp
  | t :: m, acc => by
    rw [List.foldl_cons, shPs_mem m, shP_mem, or_assoc]
    refine or_congr_right ⟨?_, ?_⟩
    · rintro (h | ⟨v, hv, h⟩)
      · exact ⟨t, List.mem_cons_self .., h⟩
      · exact ⟨v, List.mem_cons_of_mem _ hv, h⟩
    · rintro ⟨v, hv, h⟩
      rcases List.mem_cons.1 hv with rfl | hv
      · exact .inl h
      · exact .inr ⟨v, hv, h⟩
theorem todo_mem {g u : Tm} : u ∈ todoR g ↔ u ∈ inT g ∨ ∃ t ∈ inT g, t.kind = 9 ∧ ∃ x y, t.kids = [x, y] ∧ (u = pubT x ∨ u = pubT y) := by
  unfold todoR
  rw [shPs_mem]
  have h : ∀ v, v ∈ subR g [] ↔ v ∈ inT g := fun v => by rw [mem_subR]; simp
  rw [h]
  refine or_congr_right ⟨?_, ?_⟩
  · rintro ⟨t, ht, h'⟩; exact ⟨t, (h t).1 ht, h'⟩
  · rintro ⟨t, ht, h'⟩; exact ⟨t, (h t).2 ht, h'⟩
theorem in_gd {g : Tm} (hg : gdT g) : ∀ u ∈ inT g, gdT u := by
  revert hg
  induction g using Tm.indk with
  | h t ih =>
  intro hg u hu
  rw [inT_eq] at hu
  rcases List.mem_cons.1 hu with rfl | hu
  · exact hg
  · obtain ⟨w, hw, hu⟩ := inTs_of hu
    exact ih w hw (gd_kid hg hw) u hu
theorem todo_gd {g : Tm} (hg : gdT g) {u : Tm} (h : u ∈ todoR g) : gdT u := by
  rcases todo_mem.1 h with h | ⟨t, ht, _, x, y, e, h | h⟩
  · exact in_gd hg u h
  · rw [h]; exact gd_pub (in_gd hg t ht) (by rw [e]; simp)
  · rw [h]; exact gd_pub (in_gd hg t ht) (by rw [e]; simp)
theorem todo_kid {g t u : Tm} (h : t ∈ todoR g) (hu : u ∈ t.kids) : u ∈ todoR g := by
  refine todo_mem.2 (.inl ?_)
  rcases todo_mem.1 h with h | ⟨v, hv, _, x, y, e, h | h⟩
  · exact inT_kid h hu
  · rw [h] at hu
    have hu : u = x := by simpa [pubT, Tm.kids] using hu
    rw [hu]; exact inT_kid hv (by rw [e]; simp)
  · rw [h] at hu
    have hu : u = y := by simpa [pubT, Tm.kids] using hu
    rw [hu]; exact inT_kid hv (by rw [e]; simp)
theorem todo_pub {g t x y : Tm} (h : t ∈ todoR g) (k : t.kind = 9) (e : t.kids = [x, y]) : pubT x ∈ todoR g ∧ pubT y ∈ todoR g := by
  rcases todo_mem.1 h with h | ⟨v, hv, _, x', y', e', h | h⟩
  · exact ⟨todo_mem.2 (.inr ⟨t, h, k, x, y, e, .inl rfl⟩), todo_mem.2 (.inr ⟨t, h, k, x, y, e, .inr rfl⟩)⟩
  · rw [h] at k; exact absurd (show (8 : Int) = 9 from k) (by decide)
  · rw [h] at k; exact absurd (show (8 : Int) = 9 from k) (by decide)
theorem todo_self (g : Tm) : g ∈ todoR g := todo_mem.2 (.inl (inT_self g))
theorem shP_len (acc : List Tm) (t : Tm) : (shP acc t).length ≤ acc.length + 2 := by
  unfold shP
  split
  · split
    · rename_i x y e
      have := with_len acc (pubT x)
      have := with_len (withT acc (pubT x)) (pubT y)
      omega
    · omega
  · omega
theorem shPs_len : ∀ (m acc : List Tm), (m.foldl shP acc).length ≤ acc.length + m.length * 2
  | [], acc => by simp
  | t :: m, acc => by
    have h1 := shPs_len m (shP acc t)
    have h2 := shP_len acc t
    rw [List.foldl_cons, List.length_cons]
    omega
theorem subR0_len (g : Tm) : (subR g []).length ≤ g.size := by have := subR_len g []; simpa using this
theorem todo_len (g : Tm) : (todoR g).length ≤ g.size * 3 := by
  have h1 := shPs_len (subR g []) (subR g [])
  have h2 := subR0_len g
  unfold todoR
  omega
theorem shPs_take (l acc : List Tm) {i : Nat} (h : i < l.length) : (l.take (i + 1)).foldl shP acc = shP ((l.take i).foldl shP acc) l[i] := by
  rw [List.take_succ_eq_append_getElem h, List.foldl_append]
  rfl

/-! The rounds. -/
/-- Can it be made of what is made? -/
def okS (l made : List Tm) (t : Tm) : Bool :=
  decide (t ∈ l) || decide (t.kind = 1) || (if t.kind = 9 then (match t.kids with | [x, y] => (decide (x ∈ made) && decide (pubT y ∈ made)) || (decide (y ∈ made) && decide (pubT x ∈ made)) | _ => false) else decide (2 < t.kind) && t.kids.all fun u => decide (u ∈ made))
def mdS (l made : List Tm) (t : Tm) : List Tm := if okS l made t = true then withT made t else made
def mdR (l todo made : List Tm) : List Tm := todo.foldl (mdS l) made
def mdI (l todo : List Tm) : Nat → List Tm
  | 0 => []
  | j + 1 => mdR l todo (mdI l todo j)
theorem mdS_mem {l made : List Tm} {t u : Tm} : u ∈ mdS l made t ↔ u ∈ made ∨ (okS l made t = true ∧ u = t) := by
  unfold mdS
  by_cases h : okS l made t = true
  · rw [if_pos h, mem_with]; simp [h]
  · rw [if_neg h]; simp [h]
theorem mdS_len (l made : List Tm) (t : Tm) : made.length ≤ (mdS l made t).length := by
  unfold mdS withT
  split
  · split
    · exact Nat.le_refl _
    · simp
  · exact Nat.le_refl _
theorem mdR_len (l : List Tm) : ∀ (m made : List Tm), made.length ≤ (mdR l m made).length
  | [], _ => Nat.le_refl _
  | t :: m, made => Nat.le_trans (mdS_len l made t) (mdR_len l m (mdS l made t))
theorem mdR_full (l : List Tm) : ∀ (m made : List Tm), (mdR l m made).length ≤ made.length → ∀ t ∈ m, okS l made t = true → t ∈ made
  | [], _, _, t, ht, _ => by cases ht
  | v :: m, made, h, t, ht, ho => by
    have h1 := mdR_len l m (mdS l made v)
    have h2 := mdS_len l made v
    have h3 : (mdS l made v).length ≤ made.length := Nat.le_trans h1 h
    have e : mdS l made v = made := by
      unfold mdS withT at h3 ⊢
      split
      · rename_i hv
        rw [if_pos hv] at h3
        split
        · rfl
        · rename_i hm
          rw [if_neg hm] at h3
          simp at h3
          omega
      · rfl
    rcases List.mem_cons.1 ht with rfl | ht
    · rw [← e, mdS_mem]; exact .inr ⟨ho, rfl⟩
    · have h' : (mdR l m made).length ≤ made.length := by
        have : mdR l (v :: m) made = mdR l m (mdS l made v) := rfl
        rwa [this, e] at h
      exact mdR_full l m made h' t ht ho
theorem mdR_sub (l : List Tm) : ∀ (m made : List Tm) (u : Tm), u ∈ mdR l m made → u ∈ made ∨ u ∈ m
  | [], made, u, h => .inl h
  | v :: m, made, u, h => by
    rcases mdR_sub l m (mdS l made v) u h with h | h
    · rcases mdS_mem.1 h with h | ⟨_, rfl⟩
      · exact .inl h
      · exact .inr (List.mem_cons_self ..)
    · exact .inr (List.mem_cons_of_mem _ h)
theorem mdI_sub (l todo : List Tm) : ∀ (j : Nat) (u : Tm), u ∈ mdI l todo j → u ∈ todo
  | 0, u, h => by cases h
  | j + 1, u, h => (mdR_sub l todo _ u h).elim (mdI_sub l todo j u) id
theorem with_nd {l : List Tm} (h : l.Nodup) (t : Tm) : (withT l t).Nodup := by
  unfold withT
  split
  · exact h
  · rename_i hn
    refine List.nodup_append.2 ⟨h, by simp, fun a ha b hb => ?_⟩
    rw [List.mem_singleton.1 hb]
    rintro rfl
    exact hn ha
theorem mdR_nd (l : List Tm) : ∀ (m made : List Tm), made.Nodup → (mdR l m made).Nodup
  | [], _, h => h
  | t :: m, made, h => mdR_nd l m (mdS l made t) (by
    unfold mdS
    split
    · exact with_nd h t
    · exact h)
theorem mdI_nd (l todo : List Tm) : ∀ j, (mdI l todo j).Nodup
  | 0 => List.nodup_nil
  | j + 1 => mdR_nd l todo _ (mdI_nd l todo j)
theorem mdI_le (l todo : List Tm) (j : Nat) : (mdI l todo j).length ≤ todo.length := nodup_len (mdI_nd l todo j) (mdI_sub l todo j)
theorem mdI_mono (l todo : List Tm) (j : Nat) : (mdI l todo j).length ≤ (mdI l todo (j + 1)).length := mdR_len l todo _
theorem md_len_le (l : List Tm) (m made : List Tm) : (mdR l m made).length ≤ made.length + m.length := by
  induction m generalizing made with
  | nil => simp [mdR]
  | cons t m ih =>
    have h1 := ih (mdS l made t)
    have h2 : (mdS l made t).length ≤ made.length + 1 := by
      unfold mdS
      split
      · exact with_len _ _
      · omega
    have e : mdR l (t :: m) made = mdR l m (mdS l made t) := rfl
    rw [e, List.length_cons]
    omega
theorem mdR_take {l made m : List Tm} {i : Nat} (h : i < m.length) : mdR l (m.take (i + 1)) made = mdS l (mdR l (m.take i) made) m[i] := by
  rw [List.take_succ_eq_append_getElem h, mdR, List.foldl_append]
  rfl
/-- Nothing is found that is not made. -/
theorem mdS_ok {l made : List Tm} {t : Tm} (g : gdT t) (hm : ∀ u ∈ made, Mk (· ∈ l) u) : ∀ u ∈ mdS l made t, Mk (· ∈ l) u := by
  intro u hu
  rcases mdS_mem.1 hu with hu | ⟨ho, rfl⟩
  · exact hm u hu
  · unfold okS at ho
    simp only [Bool.or_eq_true, decide_eq_true_eq] at ho
    rcases ho with (ho | ho) | ho
    · exact .base ho g
    · exact .data g ho
    · by_cases h9 : u.kind = 9
      · rw [if_pos h9] at ho
        obtain ⟨x, y, e⟩ := kids2 g (.inr (.inr (.inl h9)))
        rw [e] at ho
        simp only [Bool.or_eq_true, Bool.and_eq_true, decide_eq_true_eq] at ho
        rcases ho with ⟨h1, h2⟩ | ⟨h1, h2⟩
        · exact .sh1 g h9 e (hm _ h1) (hm _ h2)
        · exact .sh2 g h9 e (hm _ h1) (hm _ h2)
      · rw [if_neg h9] at ho
        simp only [Bool.and_eq_true, decide_eq_true_eq, List.all_eq_true] at ho
        exact .comp g (by omega) (by omega) h9 fun v hv => hm v (ho.2 v hv)
theorem mdR_ok {l : List Tm} : ∀ {m made : List Tm}, (∀ t ∈ m, gdT t) → (∀ u ∈ made, Mk (· ∈ l) u) → ∀ u ∈ mdR l m made, Mk (· ∈ l) u
  | [], _, _, h => h
  | t :: m, made, hg, h => mdR_ok (m := m) (made := mdS l made t) (fun u hu => hg u (List.mem_cons_of_mem _ hu)) (mdS_ok (hg t (List.mem_cons_self ..)) h)
theorem mdI_ok {l todo : List Tm} (hg : ∀ t ∈ todo, gdT t) : ∀ j, ∀ u ∈ mdI l todo j, Mk (· ∈ l) u
  | 0, u, h => by cases h
  | j + 1, u, h => mdR_ok hg (mdI_ok hg j) u h
/-- When nothing more is found, all is found. -/
theorem md_all {l made : List Tm} {g : Tm} (hf : ∀ t ∈ todoR g, okS l made t = true → t ∈ made) {t : Tm} (h : Mk (· ∈ l) t) : t ∈ todoR g → t ∈ made := by
  induction h with
  | base hb _ => exact fun ht => hf _ ht (by simp [okS, hb])
  | data _ hk => exact fun ht => hf _ ht (by simp [okS, hk])
  | @comp t hg k1 k2 k9 _ ih =>
    refine fun ht => hf _ ht ?_
    unfold okS
    rw [if_neg k9]
    have hk : 2 < t.kind := by
      have := ((shp_mk t).1 (txt_ne.1 hg.1).1).1.1
      simp only [Tm.known, Bool.and_eq_true, decide_eq_true_eq] at this
      omega
    have : (t.kids.all fun u => decide (u ∈ made)) = true := by
      rw [List.all_eq_true]
      exact fun u hu => decide_eq_true (ih u hu (todo_kid ht hu))
    rw [this, decide_eq_true hk]
    simp
  | @sh1 t x y hg k e _ _ ih1 ih2 =>
    refine fun ht => hf _ ht ?_
    have h1 := ih1 (todo_kid ht (by rw [e]; simp))
    have h2 := ih2 (todo_pub ht k e).2
    unfold okS
    rw [if_pos k, e]
    simp [h1, h2]
  | @sh2 t x y hg k e _ _ ih1 ih2 =>
    refine fun ht => hf _ ht ?_
    have h1 := ih1 (todo_kid ht (by rw [e]; simp))
    have h2 := ih2 (todo_pub ht k e).1
    unfold okS
    rw [if_pos k, e]
    simp [h1, h2]
theorem md_end {list : List Tm} {g : Tm} (hg : gdT (canT g)) {j : Nat} (h : (mdI (frR list) (todoR (canT g)) (j + 1)).length ≤ (mdI (frR list) (todoR (canT g)) j).length) : decide (canT g ∈ mdI (frR list) (todoR (canT g)) (j + 1)) = mdT list g := by
  rw [Bool.eq_iff_iff, mdT_iff, decide_eq_true_iff, ← frR_mk]
  refine ⟨mdI_ok (fun t ht => todo_gd hg ht) (j + 1) _, fun hm => ?_⟩
  have h1 := md_all (made := mdI (frR list) (todoR (canT g)) j) (mdR_full (frR list) (todoR (canT g)) _ h) hm (todo_self _)
  have key : ∀ (m made : List Tm) (u : Tm), u ∈ made → u ∈ mdR (frR list) m made := by
    intro m
    induction m with
    | nil => exact fun _ _ h => h
    | cons t m ih => exact fun made u h => ih _ u (mdS_mem.2 (.inl h))
  exact key _ _ _ h1
theorem md_no {list : List Tm} {g : Tm} (h : rightT (canT g) = false) : mdT list g = false := by
  rw [← Bool.not_eq_true, mdT_iff]
  intro hm
  have := right_gd hm.gd
  rw [h] at this
  cases this

/-! Taken apart. -/
theorem itK_gd {l : List Tm} {j : Nat} (hw : WK (univ l) (itK (ofT l) j)) {t : Tm} (h : t ∈ (itK (ofT l) j).l) : gdT t := ⟨hw.ne t h, hw.can t h⟩
theorem more_gd {S : List Bs} {l : List Tm} (h : ∀ t ∈ l, gdT t) : ∀ u ∈ moreT S l, gdT u := fun u hu => by
  obtain ⟨t, ht, hu⟩ := List.mem_flatMap.1 hu
  exact gd_kid (h t ht) (gives_sub hu)
theorem step_with {U : List Tm} {k : Kn} (hw : WK U k) : (stepK k).l = (moreT k.s k.l).foldl withT k.l :=
  adds_with ⟨k.l, k.s, dIn k.l k.s k.l k.d⟩ hw.s hw.ne _ (more_gd fun t ht => ⟨hw.ne t ht, hw.can t ht⟩)
/-- What is made of a list of right terms. -/
theorem mk_mdT {l : List Tm} (hg : ∀ t ∈ l, gdT t) {t : Tm} (hc : canT t = t) : mkB (l.map txtT) t = mdT l t := by
  rw [Bool.eq_iff_iff, mkB_mk hg _ t (Nat.le_refl _) hc, mdT_iff, hc]
  exact Mk.congr fun u hu => (fr_gd hg).symm
theorem withs_len : ∀ (m l : List Tm), (m.foldl withT l).length ≤ l.length + m.length
  | [], l => by simp
  | t :: m, l => by
    have h1 := withs_len m (withT l t)
    have h2 := with_len l t
    rw [List.foldl_cons, List.length_cons]
    omega
theorem withs_mem {u : Tm} : ∀ (m l : List Tm), u ∈ m.foldl withT l ↔ u ∈ l ∨ u ∈ m
  | [], l => by simp
  | t :: m, l => by rw [List.foldl_cons, withs_mem m, mem_with, List.mem_cons, or_assoc]
end Go.Sl
