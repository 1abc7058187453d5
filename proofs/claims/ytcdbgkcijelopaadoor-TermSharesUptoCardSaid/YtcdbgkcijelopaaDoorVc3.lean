/- A calculus of verification conditions, part 3: the types; what the model's loads and stores come to. -/
import Derived.Test.YtcdbgkcijelopaaDoorVc2
import Derived.Laws.Cells
import Derived.Laws.Entries
import Derived.Laws.AppendOwn
set_option linter.unusedVariables false
namespace Go.Vc
open Go Go.RowKit

def KindOk (P : Program) (ti : TI) : TypeDesc → Prop
  | .struct fs => ti.k = 1 ∧ ti.agg = true ∧ fs.toList.map (fun f => (f.offset, (P.info? f.type).map (·.size))) = ti.flds.map fun x => (x.1, some x.2)
  | .slice e => ti.k = 2 ∧ ti.agg = false ∧ e = ti.elem
  | .array n e => ti.k = 3 ∧ ti.agg = true ∧ n = ti.alen ∧ e = ti.elem
  | .string => ti.k = 4 ∧ ti.agg = false
  | .int j => ti.k = 5 ∧ ti.agg = false ∧ ti.zero = .int j 0
  | .bool => ti.k = 6 ∧ ti.agg = false
  | _ => ti.k = 0 ∧ ti.agg = false
structure TyOk (P : Program) (t : Nat) (ti : TI) : Prop where
  out : ∃ (i : TypeInfo) (d : TypeDesc) (z : Value), P.info? t = some i ∧ P.underlying t = some d ∧ i.size = ti.sz ∧ i.bytes = ti.bytes ∧ i.zero = some z ∧ cv z = .p ti.zero ∧ z.cells.size = ti.sz ∧ KindOk P ti d ∧ (ti.agg = false → one z) ∧ (ti.agg = true → z = .agg z.cells)
structure CxOk (C : Cx) : Prop where
  ty : ∀ t ti, C.T t = some ti → TyOk C.P t ti
  x : ∀ ok ok' w w', C.X ok w → (∀ b, ok b → ok' b) → Stay ok w w' → (∀ b, ok b → b < w.heap.size) → C.X ok' w'

section
variable {P : Program} {t : Nat} {ti : TI}
theorem TyOk.size (h : TyOk P t ti) (w : World) : (sizeOf t).run P w = .ok ti.sz w := by
  obtain ⟨i, d, z, h1, h2, h3, _⟩ := h.out
  simp [sizeOf, typeInfo, h1, h3]
theorem TyOk.isAgg (h : TyOk P t ti) (w : World) : (isAgg t).run P w = .ok ti.agg w := by
  obtain ⟨i, d, z, h1, h2, _, _, _, _, _, h3, _⟩ := h.out
  cases d <;> simp_all [Go.isAgg, underlying, KindOk]
theorem TyOk.zero (h : TyOk P t ti) (w : World) : ∃ z, (zeroValue t).run P w = .ok z w ∧ cv z = .p ti.zero ∧ z.cells.size = ti.sz ∧ (ti.agg = false → one z) ∧ (ti.agg = true → z = .agg z.cells) := by
  obtain ⟨i, d, z, h1, h2, h3, _, h4, h5, h6, _, h7, h8⟩ := h.out
  exact ⟨z, by simp [zeroValue, typeInfo, h1, h4], h5, h6, h7, h8⟩
theorem TyOk.slice (h : TyOk P t ti) (hk : ti.k = 2) : P.underlying t = some (.slice ti.elem) := by
  obtain ⟨i, d, z, h1, h2, _, _, _, _, _, h3, _⟩ := h.out
  cases d <;> simp_all [KindOk]
theorem TyOk.array (h : TyOk P t ti) (hk : ti.k = 3) : P.underlying t = some (.array ti.alen ti.elem) := by
  obtain ⟨i, d, z, h1, h2, _, _, _, _, _, h3, _⟩ := h.out
  cases d <;> simp_all [KindOk]
theorem TyOk.string (h : TyOk P t ti) (hk : ti.k = 4) : P.underlying t = some .string := by
  obtain ⟨i, d, z, h1, h2, _, _, _, _, _, h3, _⟩ := h.out
  cases d <;> simp_all [KindOk]
theorem TyOk.int (h : TyOk P t ti) (hk : ti.k = 5) : ∃ j, P.underlying t = some (.int j) ∧ ti.zero = .int j 0 := by
  obtain ⟨i, d, z, h1, h2, _, _, _, _, _, h3, _⟩ := h.out
  cases d <;> simp_all [KindOk]
theorem TyOk.und (h : TyOk P t ti) : ∃ d, P.underlying t = some d := by
  obtain ⟨i, d, z, h1, h2, _⟩ := h.out
  exact ⟨d, h2⟩
theorem TyOk.bool (h : TyOk P t ti) (hk : ti.k = 6) : P.underlying t = some .bool := by
  obtain ⟨i, d, z, h1, h2, _, _, _, _, _, h3, _⟩ := h.out
  cases d <;> simp_all [KindOk]
end

theorem RPL_drop {ok : Nat → Prop} {w : World} : ∀ {xs : List PV} {vs : List Value} (n : Nat), RPL ok w xs vs → RPL ok w (xs.drop n) (vs.drop n)
  | xs, vs, 0, h => by simpa using h
  | [], [], n + 1, h => by simpa using h
  | [], _ :: _, n + 1, h => h.elim
  | _ :: _, [], n + 1, h => h.elim
  | x :: xs, v :: vs, n + 1, h => by simpa using RPL_drop n h.2
theorem RPL_take {ok : Nat → Prop} {w : World} : ∀ {xs : List PV} {vs : List Value} (n : Nat), RPL ok w xs vs → RPL ok w (xs.take n) (vs.take n)
  | xs, vs, 0, h => by simp [RPL]
  | [], [], n + 1, h => by simp [RPL]
  | [], _ :: _, n + 1, h => h.elim
  | _ :: _, [], n + 1, h => h.elim
  | x :: xs, v :: vs, n + 1, h => by simpa using ⟨h.1, RPL_take n h.2⟩
section
variable {ok : Nat → Prop} {β : Nat → Value} {w : World}
theorem RL_drop : ∀ {xs : List SV} {vs : List Value} (n : Nat), RL ok β w xs vs → RL ok β w (xs.drop n) (vs.drop n)
  | xs, vs, 0, h => by simpa using h
  | [], [], n + 1, h => by simpa using h
  | [], _ :: _, n + 1, h => h.elim
  | _ :: _, [], n + 1, h => h.elim
  | x :: xs, v :: vs, n + 1, h => by simpa using RL_drop n h.2
theorem RL_take : ∀ {xs : List SV} {vs : List Value} (n : Nat), RL ok β w xs vs → RL ok β w (xs.take n) (vs.take n)
  | xs, vs, 0, h => by simp [RL]
  | [], [], n + 1, h => by simp [RL]
  | [], _ :: _, n + 1, h => h.elim
  | _ :: _, [], n + 1, h => h.elim
  | x :: xs, v :: vs, n + 1, h => by simpa using ⟨h.1, RL_take n h.2⟩
theorem RL_append : ∀ {xs ys : List SV} {vs us : List Value}, RL ok β w xs vs → RL ok β w ys us → RL ok β w (xs ++ ys) (vs ++ us)
  | [], ys, [], us, h, h' => by simpa using h'
  | [], _, _ :: _, _, h, _ => h.elim
  | _ :: _, _, [], _, h, _ => h.elim
  | x :: xs, ys, v :: vs, us, h, h' => ⟨h.1, RL_append h.2 h'⟩
theorem RL_set : ∀ {xs : List SV} {vs : List Value} {x : SV} {v : Value} (n : Nat), RL ok β w xs vs → R ok β w x v → RL ok β w (xs.set n x) (vs.set n v)
  | [], [], x, v, n, h, _ => by simpa using h
  | [], _ :: _, x, v, n, h, _ => h.elim
  | _ :: _, [], x, v, n, h, _ => h.elim
  | y :: xs, u :: vs, x, v, 0, h, hx => by simpa using ⟨hx, h.2⟩
  | y :: xs, u :: vs, x, v, n + 1, h, hx => by simpa using ⟨h.1, RL_set n h.2 hx⟩
theorem RL_map_p : ∀ {xs : List PV} {vs : List Value}, RPL ok w xs vs → RL ok β w (xs.map .p) vs
  | [], [], h => trivial
  | [], _ :: _, h => h.elim
  | _ :: _, [], h => h.elim
  | x :: xs, v :: vs, h => ⟨h.1, RL_map_p h.2⟩
theorem allP_R : ∀ {xs : List SV} {ps : List PV} {vs : List Value}, allP xs = some ps → RL ok β w xs vs → RPL ok w ps vs
  | [], ps, [], e, h => by simp [allP] at e; subst e; trivial
  | [], ps, _ :: _, e, h => h.elim
  | _ :: _, ps, [], e, h => h.elim
  | .p x :: xs, ps, v :: vs, e, h => by
    simp only [allP, Option.map_eq_some_iff] at e
    obtain ⟨qs, e1, rfl⟩ := e
    exact ⟨h.1, allP_R e1 h.2⟩
  | .no :: xs, ps, v :: vs, e, h => by simp [allP] at e
  | .elt _ :: xs, ps, v :: vs, e, h => by simp [allP] at e
  | .eltF _ _ :: xs, ps, v :: vs, e, h => by simp [allP] at e
  | .rowE _ _ _ :: xs, ps, v :: vs, e, h => by simp [allP] at e
  | .ptr _ _ :: xs, ps, v :: vs, e, h => by simp [allP] at e
  | .slc _ :: xs, ps, v :: vs, e, h => by simp [allP] at e
  | .fn _ _ :: xs, ps, v :: vs, e, h => by simp [allP] at e
  | .mix _ :: xs, ps, v :: vs, e, h => by simp [allP] at e
  | .tupS _ :: xs, ps, v :: vs, e, h => by simp [allP] at e
  | .glob _ :: xs, ps, v :: vs, e, h => by simp [allP] at e
  | .nilQ _ :: xs, ps, v :: vs, e, h => by simp [allP] at e
theorem ofCells_R {xs : List SV} {vs : List Value} (h : RL ok β w xs vs) (h1 : ∀ u ∈ vs, one u) : R ok β w (ofCells xs) (.agg vs.toArray) := by
  unfold ofCells
  split
  · rename_i ps e
    rw [R, RP]
    exact ⟨vs, rfl, h1, allP_R e h⟩
  · rw [R]
    exact ⟨vs, rfl, h1, h⟩
/-- What a slot's content is: its shape, its cells. -/
theorem R_shape {x : SV} {v : Value} {sh : Bool × Nat} (h : R ok β w x v) (e : x.shape = some sh) : (∀ u ∈ v.cells.toList, one u) ∧ v.cells.size = sh.2 ∧ (sh.1 = true → v = .agg v.cells) ∧ (sh.1 = false → one v) := by
  cases x with
  | p x =>
    simp only [SV.shape, Option.some.injEq] at e
    subst e
    rw [R] at h
    exact RP_one h
  | mix cs =>
    simp only [SV.shape, Option.some.injEq] at e
    subst e
    rw [R] at h
    obtain ⟨vs, rfl, h1, h2⟩ := h
    simp [Value.cells, RL_length h2]
    exact h1
  | no => simp [SV.shape] at e
  | tupS cs => simp [SV.shape] at e
  | elt y =>
    simp only [SV.shape, Option.some.injEq] at e; subst e
    rw [R] at h
    obtain ⟨ad, c, rfl, _⟩ := h
    simp [one, Value.oneCell', Value.cells]
  | eltF y f =>
    simp only [SV.shape, Option.some.injEq] at e; subst e
    rw [R] at h
    obtain ⟨ad, c, rfl, _⟩ := h
    simp [one, Value.oneCell', Value.cells]
  | rowE κ sz i =>
    simp only [SV.shape, Option.some.injEq] at e; subst e
    rw [R] at h
    obtain ⟨g, n, cap, _, rfl⟩ := h
    simp [one, Value.oneCell', Value.cells]
  | ptr κ off =>
    simp only [SV.shape, Option.some.injEq] at e; subst e
    rw [R] at h
    obtain ⟨b, _, rfl⟩ := h
    simp [one, Value.oneCell', Value.cells]
  | slc κ =>
    simp only [SV.shape, Option.some.injEq] at e; subst e
    rw [R] at h
    obtain ⟨_, h1⟩ := h
    have hc := one_cells h1
    refine ⟨fun u hu => ?_, by rw [hc]; rfl, by simp, fun _ => h1⟩
    rw [hc] at hu
    simp at hu
    rw [hu]; exact h1
  | fn f caps =>
    simp only [SV.shape, Option.some.injEq] at e; subst e
    rw [R] at h
    obtain ⟨vs, rfl, _⟩ := h
    simp [one, Value.oneCell', Value.cells]
  | glob g =>
    simp only [SV.shape, Option.some.injEq] at e; subst e
    rw [R] at h
    subst h
    simp [one, Value.oneCell', Value.cells]
  | nilQ L =>
    simp only [SV.shape, Option.some.injEq] at e; subst e
    rw [R] at h
    obtain ⟨b, rfl, _⟩ := h
    simp [one, Value.oneCell', Value.cells]
theorem cells_R {y : SV} {v : Value} {cs : List SV} (h : R ok β w y v) (e : y.cells = some cs) : RL ok β w cs v.cells.toList := by
  have key : ∀ x : SV, R ok β w x v → x.shape = some (false, 1) → RL ok β w [x] v.cells.toList := by
    intro x hx hs
    have := (R_shape hx hs).2.2.2 rfl
    rw [one_cells this]
    exact ⟨hx, trivial⟩
  cases y with
  | no => simp [SV.cells] at e
  | tupS cs => simp [SV.cells] at e
  | mix l =>
    simp only [SV.cells, Option.some.injEq] at e
    subst e
    rw [R] at h
    obtain ⟨vs, rfl, h1, h2⟩ := h
    simpa [Value.cells] using h2
  | p x =>
    cases x with
    | agg l =>
      simp only [SV.cells, Option.some.injEq] at e
      subst e
      rw [R, RP] at h
      obtain ⟨vs, rfl, h1, h2⟩ := h
      simpa [Value.cells] using RL_map_p (β := β) h2
    | int k n => simp only [SV.cells, Option.some.injEq] at e; subst e; exact key _ h rfl
    | bool b => simp only [SV.cells, Option.some.injEq] at e; subst e; exact key _ h rfl
    | str l => simp only [SV.cells, Option.some.injEq] at e; subst e; exact key _ h rfl
    | exact u => simp only [SV.cells, Option.some.injEq] at e; subst e; exact key _ h rfl
    | nilS => simp only [SV.cells, Option.some.injEq] at e; subst e; exact key _ h rfl
    | lst L => simp only [SV.cells, Option.some.injEq] at e; subst e; exact key _ h rfl
  | elt y => simp only [SV.cells, Option.some.injEq] at e; subst e; exact key _ h rfl
  | eltF y f => simp only [SV.cells, Option.some.injEq] at e; subst e; exact key _ h rfl
  | rowE κ sz i => simp only [SV.cells, Option.some.injEq] at e; subst e; exact key _ h rfl
  | ptr κ off => simp only [SV.cells, Option.some.injEq] at e; subst e; exact key _ h rfl
  | slc κ => simp only [SV.cells, Option.some.injEq] at e; subst e; exact key _ h rfl
  | fn f caps => simp only [SV.cells, Option.some.injEq] at e; subst e; exact key _ h rfl
  | glob g => simp only [SV.cells, Option.some.injEq] at e; subst e; exact key _ h rfl
  | nilQ L => simp only [SV.cells, Option.some.injEq] at e; subst e; exact key _ h rfl
/-- The keys of what a content is made of. -/
theorem keysL_mem {l : List SV} {x : SV} {κ : Nat} (hx : x ∈ l) (hk : κ ∈ x.keys) : κ ∈ SV.keysL l := by
  induction l with
  | nil => cases hx
  | cons y l ih =>
    simp only [SV.keysL, List.mem_append]
    cases hx with
    | head => exact .inl hk
    | tail _ h => exact .inr (ih h)
theorem keysL_sub {l l' : List SV} (h : ∀ x ∈ l, x ∈ l') {κ : Nat} (hk : κ ∈ SV.keysL l) : κ ∈ SV.keysL l' := by
  induction l with
  | nil => simp [SV.keysL] at hk
  | cons y l ih =>
    simp only [SV.keysL, List.mem_append] at hk
    rcases hk with hk | hk
    · exact keysL_mem (h y (List.mem_cons_self ..)) hk
    · exact ih (fun x hx => h x (List.mem_cons_of_mem _ hx)) hk
theorem keysL_append (l l' : List SV) : SV.keysL (l ++ l') = SV.keysL l ++ SV.keysL l' := by
  induction l with
  | nil => rfl
  | cons x l ih => simp [SV.keysL, ih, List.append_assoc]
theorem keysL_map_p (l : List PV) : SV.keysL (l.map .p) = [] := by
  induction l with
  | nil => rfl
  | cons x l ih => simp [SV.keysL, SV.keys, ih]
theorem cells_keys {y : SV} {cs : List SV} (e : y.cells = some cs) {κ : Nat} (hk : κ ∈ SV.keysL cs) : κ ∈ y.keys := by
  cases y with
  | no => simp [SV.cells] at e
  | tupS l => simp [SV.cells] at e
  | mix l => simp only [SV.cells, Option.some.injEq] at e; subst e; simpa [SV.keys] using hk
  | p x =>
    cases x <;> simp only [SV.cells, Option.some.injEq] at e <;> subst e <;> simp_all [SV.keysL, SV.keys, keysL_map_p]
  | elt y => simp only [SV.cells, Option.some.injEq] at e; subst e; simpa [SV.keysL] using hk
  | eltF y f => simp only [SV.cells, Option.some.injEq] at e; subst e; simpa [SV.keysL] using hk
  | rowE κ sz i => simp only [SV.cells, Option.some.injEq] at e; subst e; simpa [SV.keysL] using hk
  | ptr κ off => simp only [SV.cells, Option.some.injEq] at e; subst e; simpa [SV.keysL] using hk
  | slc κ => simp only [SV.cells, Option.some.injEq] at e; subst e; simpa [SV.keysL] using hk
  | fn f caps => simp only [SV.cells, Option.some.injEq] at e; subst e; simpa [SV.keysL] using hk
  | glob g => simp only [SV.cells, Option.some.injEq] at e; subst e; simpa [SV.keysL] using hk
  | nilQ L => simp only [SV.cells, Option.some.injEq] at e; subst e; simpa [SV.keysL] using hk
theorem ofCells_keys {cs : List SV} {κ : Nat} (hk : κ ∈ (ofCells cs).keys) : κ ∈ SV.keysL cs := by
  unfold ofCells at hk
  split at hk
  · simp [SV.keys] at hk
  · simpa [SV.keys] using hk

/-- A load comes to the cells that lie there. -/
theorem run_loadVar_agg {P : Program} {t : Nat} {ti : TI} (hT : TyOk P t ti) (ha : ti.agg = true) {w : World} {ad : Addr} {cs : List Value} (hl : cs.length = ti.sz) (hc : ∀ j u, cs[j]? = some u → w.cell? (ad.add j) = some u) :
    (loadVar t ad).run P w = .ok (.agg cs.toArray) w := by
  have h1 := run_loadCells_list (P := P) w ad cs hc
  unfold loadVar
  simp only [Sem.run_bind, hT.isAgg, Result.andThen_ok, ha, if_true, hT.size, ← hl, h1, Sem.run_pure]
theorem run_loadVar_one {P : Program} {t : Nat} {ti : TI} (hT : TyOk P t ti) (ha : ti.agg = false) {w : World} {ad : Addr} {u : Value} (hc : w.cell? ad = some u) :
    (loadVar t ad).run P w = .ok u w := by
  unfold loadVar
  simp [hT.isAgg, ha, hc]
end
end Go.Vc
