/- Layer 8 in plain theory: what is made, of what can't be taken apart. -/
import Derived.Test.YtakehleacibfiaaDoorMa
set_option linter.unusedVariables false
set_option linter.unusedSimpArgs false
namespace Go.Sl
open Go Go.Vc Go.Proofs Go.RowKit

/-- What is made of some terms, none taken apart. -/
inductive Mk (B : Tm → Prop) : Tm → Prop where
  | base {t : Tm} : B t → gdT t → Mk B t
  | data {t : Tm} : gdT t → t.kind = 1 → Mk B t
  | comp {t : Tm} : gdT t → t.kind ≠ 1 → t.kind ≠ 2 → t.kind ≠ 9 → (∀ u ∈ t.kids, Mk B u) → Mk B t
  | sh1 {t x y : Tm} : gdT t → t.kind = 9 → t.kids = [x, y] → Mk B x → Mk B (pubT y) → Mk B t
  | sh2 {t x y : Tm} : gdT t → t.kind = 9 → t.kids = [x, y] → Mk B y → Mk B (pubT x) → Mk B t
theorem Mk.gd {B : Tm → Prop} {t : Tm} (h : Mk B t) : gdT t := by cases h <;> assumption
theorem Mk.cl {B : Tm → Prop} {t : Tm} (h : Mk B t) : Cl B t := by
  induction h with
  | base hb hg => exact .base hb hg
  | data h k => exact .data h k
  | comp h k1 k2 k9 _ ih => exact .comp h k1 k2 k9 ih
  | sh1 h k e _ _ i1 i2 => exact .sh1 h k e i1 i2
  | sh2 h k e _ _ i1 i2 => exact .sh2 h k e i1 i2
theorem Mk.cut {B A : Tm → Prop} {t : Tm} (hB : ∀ u, B u → gdT u → Mk A u) (h : Mk B t) : Mk A t := by
  induction h with
  | base hb hg => exact hB _ hb hg
  | data h k => exact .data h k
  | comp h k1 k2 k9 _ ih => exact .comp h k1 k2 k9 ih
  | sh1 h k e _ _ i1 i2 => exact .sh1 h k e i1 i2
  | sh2 h k e _ _ i1 i2 => exact .sh2 h k e i1 i2
theorem Mk.mono {B A : Tm → Prop} {t : Tm} (hB : ∀ u, B u → A u) (h : Mk B t) : Mk A t := h.cut fun u hb hg => .base (hB u hb) hg
/-- Nothing is gained by taking apart. -/
def Apart (B : Tm → Prop) : Prop := ∀ t, B t → gdT t → (t.kind = 3 → ∀ u ∈ t.kids, Mk B u) ∧ (t.kind = 4 → ∀ x y, t.kids = [x, y] → Mk B x → Mk B y) ∧ (t.kind = 10 → ∀ x y, t.kids = [x, y] → Mk B y → Mk B x)
theorem Cl.mk {B : Tm → Prop} (hB : Apart B) {t : Tm} (h : Cl B t) : Mk B t := by
  induction h with
  | base hb hg => exact .base hb hg
  | data h k => exact .data h k
  | comp h k1 k2 k9 _ ih => exact .comp h k1 k2 k9 ih
  | sh1 h k e _ _ i1 i2 => exact .sh1 h k e i1 i2
  | sh2 h k e _ _ i1 i2 => exact .sh2 h k e i1 i2
  | pair hc k hu ih =>
    cases ih with
    | base hb hg => exact (hB _ hb hg).1 k _ hu
    | data hg k' => rw [k] at k'; exact absurd k' (by decide)
    | comp _ _ _ _ h => exact h _ hu
    | sh1 _ k' => rw [k] at k'; exact absurd k' (by decide)
    | sh2 _ k' => rw [k] at k'; exact absurd k' (by decide)
  | enc hc k e _ i1 i2 =>
    cases i1 with
    | base hb hg => exact (hB _ hb hg).2.1 k _ _ e i2
    | data hg k' => rw [k] at k'; exact absurd k' (by decide)
    | comp _ _ _ _ h => exact h _ (by rw [e]; simp)
    | sh1 _ k' => rw [k] at k'; exact absurd k' (by decide)
    | sh2 _ k' => rw [k] at k'; exact absurd k' (by decide)
  | mask hc k e _ i1 i2 =>
    cases i1 with
    | base hb hg => exact (hB _ hb hg).2.2 k _ _ e i2
    | data hg k' => rw [k] at k'; exact absurd k' (by decide)
    | comp _ _ _ _ h => exact h _ (by rw [e]; simp)
    | sh1 _ k' => rw [k] at k'; exact absurd k' (by decide)
    | sh2 _ k' => rw [k] at k'; exact absurd k' (by decide)
theorem cl_mk {B : Tm → Prop} (hB : Apart B) {t : Tm} : Cl B t ↔ Mk B t := ⟨Cl.mk hB, Mk.cl⟩
/-- No term of a kind that is taken apart. -/
theorem apart_of {B : Tm → Prop} (h : ∀ t, B t → t.kind ≠ 3 ∧ t.kind ≠ 4 ∧ t.kind ≠ 10) : Apart B := fun t ht _ =>
  ⟨fun k => absurd k (h t ht).1, fun k => absurd k (h t ht).2.1, fun k => absurd k (h t ht).2.2⟩
/-- One step back. -/
theorem mk_iff {B : Tm → Prop} {t : Tm} : Mk B t ↔ gdT t ∧ (B t ∨ t.kind = 1 ∨ (t.kind ≠ 1 ∧ t.kind ≠ 2 ∧ t.kind ≠ 9 ∧ ∀ u ∈ t.kids, Mk B u) ∨ (t.kind = 9 ∧ ∃ x y, t.kids = [x, y] ∧ (Mk B x ∧ Mk B (pubT y) ∨ Mk B y ∧ Mk B (pubT x)))) := by
  constructor
  · intro h
    refine ⟨h.gd, ?_⟩
    cases h with
    | base hb _ => exact .inl hb
    | data _ k => exact .inr (.inl k)
    | comp _ k1 k2 k9 h => exact .inr (.inr (.inl ⟨k1, k2, k9, h⟩))
    | sh1 _ k e h1 h2 => exact .inr (.inr (.inr ⟨k, _, _, e, .inl ⟨h1, h2⟩⟩))
    | sh2 _ k e h1 h2 => exact .inr (.inr (.inr ⟨k, _, _, e, .inr ⟨h1, h2⟩⟩))
  · rintro ⟨hg, h | h | ⟨k1, k2, k9, h⟩ | ⟨k, x, y, e, ⟨h1, h2⟩ | ⟨h1, h2⟩⟩⟩
    · exact .base h hg
    · exact .data hg h
    · exact .comp hg k1 k2 k9 h
    · exact .sh1 hg k e h1 h2
    · exact .sh2 hg k e h1 h2
theorem mk_atom {B : Tm → Prop} {n : Bs} {l : List Tm} : Mk B (.mk 2 n l) ↔ gdT (.mk 2 n l) ∧ B (.mk 2 n l) := by
  rw [mk_iff]; simp [Tm.kind]
theorem mk_comp {B : Tm → Prop} {k : Int} {n : Bs} {l : List Tm} (k1 : k ≠ 1) (k2 : k ≠ 2) (k9 : k ≠ 9) : Mk B (.mk k n l) ↔ gdT (.mk k n l) ∧ (B (.mk k n l) ∨ ∀ u ∈ l, Mk B u) := by
  rw [mk_iff]; simp [Tm.kind, Tm.kids, k1, k2, k9]
theorem mk_share {B : Tm → Prop} {n : Bs} {x y : Tm} : Mk B (.mk 9 n [x, y]) ↔ gdT (.mk 9 n [x, y]) ∧ (B (.mk 9 n [x, y]) ∨ Mk B x ∧ Mk B (pubT y) ∨ Mk B y ∧ Mk B (pubT x)) := by
  rw [mk_iff]
  show _ ∧ (_ ∨ (9 : Int) = 1 ∨ ((9 : Int) ≠ 1 ∧ (9 : Int) ≠ 2 ∧ (9 : Int) ≠ 9 ∧ _) ∨ ((9 : Int) = 9 ∧ ∃ x' y', [x, y] = [x', y'] ∧ _)) ↔ _
  constructor
  · rintro ⟨hg, h | h | h | ⟨_, x', y', e, h⟩⟩
    · exact ⟨hg, .inl h⟩
    · exact absurd h (by decide)
    · exact absurd rfl h.2.2.1
    · cases e; exact ⟨hg, .inr h⟩
  · rintro ⟨hg, h | h⟩
    · exact ⟨hg, .inl h⟩
    · exact ⟨hg, .inr (.inr (.inr ⟨rfl, x, y, rfl, h⟩))⟩
theorem Mk.of {B : Tm → Prop} {k : Int} {n : Bs} {l : List Tm} (hg : gdT (.mk k n l)) (k1 : k ≠ 1) (k2 : k ≠ 2) (k9 : k ≠ 9) (h : ∀ u ∈ l, Mk B u) : Mk B (.mk k n l) := .comp hg k1 k2 k9 h
/-- When a term may be. -/
theorem gd_of {k : Int} {n : Bs} {l : List Tm} (h1 : Tm.known k = true) (h2 : (Tm.named k == !n.isEmpty) = true) (h3 : Tm.arity k < 0 ∨ (l.length : Int) = Tm.arity k) (h9 : k ≠ 9) (hl : ∀ u ∈ l, gdT u) (hd : (Tm.mk k n l).depth ≤ 60) : gdT (.mk k n l) := by
  refine ⟨txt_ne.2 ⟨(shp_mk _).2 ⟨⟨h1, h2, h3⟩, fun u hu => (txt_ne.1 (hl u hu).1).1⟩, hd⟩, ?_⟩
  rw [canT_eq]
  have e : l.map canT = l := by
    have : ∀ m : List Tm, (∀ u ∈ m, gdT u) → m.map canT = m := by
      intro m
      induction m with
      | nil => intro _; rfl
      | cons u m ih => intro h; rw [List.map_cons, (h u (List.mem_cons_self ..)).2, ih fun v hv => h v (List.mem_cons_of_mem _ hv)]
    exact this l hl
  simp only [Tm.kind, Tm.name, Tm.kids, e]
  unfold swapT
  split
  · rw [if_neg (fun h => h9 h.1)]
  · rfl
theorem gd_atom {n : Bs} (h : n ≠ []) : gdT (.mk 2 n []) := gd_of rfl (by cases n <;> simp_all [Tm.named]) (.inr rfl) (by decide) (fun u h => (by cases h)) (by simp [Tm.depth, Tm.depths])
theorem gd_data {n : Bs} (h : n ≠ []) : gdT (.mk 1 n []) := gd_of rfl (by cases n <;> simp_all [Tm.named]) (.inr rfl) (by decide) (fun u h => (by cases h)) (by simp [Tm.depth, Tm.depths])
theorem can_kind (t : Tm) : (canT t).kind = t.kind := by rw [canT_eq]; exact (swapT_kind _ _ _).1
theorem fr_kind {l : List Tm} {t : Tm} (h : Fr l t) : ∃ v ∈ l, v.kind = t.kind := by
  obtain ⟨v, hv, rfl⟩ := h
  exact ⟨v, hv, (can_kind v).symm⟩
theorem knT_true {l : List Tm} {t : Tm} (hc : canT t = t) (h : Mk (Fr l) t) : knT l t = true := by
  rw [knT_iff, hc]; exact h.cl
theorem knT_false {l : List Tm} {t : Tm} (hc : canT t = t) (ha : Apart (Fr l)) (h : ¬ Mk (Fr l) t) : knT l t = false := by
  rw [← Bool.not_eq_true, knT_iff, hc]; exact fun hk => h (hk.mk ha)
theorem apart_l {l : List Tm} (h : ∀ v ∈ l, v.kind ≠ 3 ∧ v.kind ≠ 4 ∧ v.kind ≠ 10) : Apart (Fr l) := apart_of fun t ht => by
  obtain ⟨v, hv, e⟩ := fr_kind ht
  rw [← e]; exact h v hv
theorem knowsL_ok {l : List Tm} {t : Tm} {L : List PV} {v : Bool} (hL : L = tmvs l) (hv : knT l t = v) (hf : ∀ t ∈ l, Fit t) (hw : ∀ t ∈ l, wt t ≤ 1000000000) (hs : Tm.sizes l ≤ 2000) (hl : l.length ≤ 2000) (ft : Fit t) (ht : wt t ≤ 1000000000) :
    K true 19 [.p (.lst L), tv t] (.pv (.bool v)) := by
  rw [hL, ← hv]; exact knowsT_ok l t hf hw hs hl ft ht
theorem canT_mk1 (k : Int) (n : Bs) (x : Tm) : canT (.mk k n [x]) = .mk k n [canT x] := by rw [canT_eq]; simp [Tm.kind, Tm.name, Tm.kids, swapT]
theorem canT_atom (k : Int) (n : Bs) : canT (.mk k n []) = .mk k n [] := by rw [canT_eq]; simp [Tm.kind, Tm.name, Tm.kids, swapT]
theorem gd_kdf {x : Tm} {n : Bs} (hn : n ≠ []) (hx : gdT x) (hd : x.depth ≤ 59) : gdT (kdfT x n) :=
  gd_of rfl (by cases n <;> simp_all [Tm.named]) (.inr rfl) (by decide) (by simpa using hx) (by simp only [Tm.depth, Tm.depths]; omega)
theorem gd_hash {x : Tm} (hx : gdT x) (hd : x.depth ≤ 59) : gdT (hashT x) :=
  gd_of rfl rfl (.inr rfl) (by decide) (by simpa using hx) (by simp only [Tm.depth, Tm.depths]; omega)
theorem gd_pair {l : List Tm} (hx : ∀ x ∈ l, gdT x) (hd : Tm.depths l ≤ 59) : gdT (pairT l) :=
  gd_of rfl rfl (.inl (by decide)) (by decide) hx (by simp only [Tm.depth]; omega)
theorem fr_one {a t : Tm} (h : Fr [a] t) : t = canT a := by
  obtain ⟨v, hv, rfl⟩ := h
  rw [List.mem_singleton.1 hv]
end Go.Sl
