/- A calculus of verification conditions over the model's code, part 0: what a slot holds, as plain data; what that means in a world. -/
import Derived.Maps.AppendAt
import Derived.Below
import Derived.Tactics
set_option linter.unusedVariables false
namespace Go.Vc
open Go Go.RowKit

/-- Plain data: nothing in it is ever written over. -/
inductive PV where
  | int (k : IntKind) (n : Int)
  | bool (b : Bool)
  | str (l : List UInt8)
  | exact (v : Value)
  | nilS
  | agg (cs : List PV)
  | lst (L : List PV)
instance : Inhabited PV := ⟨.nilS⟩
/-- Is it a struct, and how many cells does it take? -/
def PV.shape : PV → Bool × Nat
  | .agg cs => (true, cs.length)
  | _ => (false, 1)
/-- What a slot may hold: nothing that is known; a datum; the address of a cell of a datum in memory, of a cell of one's own object; one's own row; a function; a struct with such parts; several results; a variable of the package; whether a slice is nil. -/
inductive SV where
  | no
  | p (x : PV)
  | elt (y : PV)
  | eltF (y : PV) (f : Nat)
  | rowE (κ : Nat) (sz : Nat) (i : Nat)
  | ptr (κ : Nat) (off : Nat)
  | slc (κ : Nat)
  | fn (f : FuncId) (caps : List SV)
  | mix (cs : List SV)
  | tupS (cs : List SV)
  | glob (g : Nat)
  | nilQ (L : List PV)
/-- A map's key. -/
inductive MK where
  | s (l : List UInt8)
  | n (k : Int)
deriving DecidableEq
def MK.isS : MK → Bool
  | .s _ => true
  | .n _ => false
def MK.val : MK → Value
  | .s l => .string ⟨l.toArray⟩
  | .n k => .int .i64 k
/-- One's own objects: a variable of a type (own: it may be written); a row that grows; a map, with texts for keys or numbers. -/
inductive AO where
  | no
  | var (own : Bool) (t : TypeId) (x : SV)
  | row (t : TypeId) (sz : Nat) (L : List PV)
  | mp (t : TypeId) (sk : Bool) (L : List (MK × PV))

/-- A value of one cell. -/
def one (v : Value) : Prop := v.oneCell' = true
theorem one_cells {v : Value} (h : one v) : v.cells = #[v] := by cases v <;> first | rfl | (simp [one, Value.oneCell'] at h)

mutual
def RP (ok : Nat → Prop) (w : World) : PV → Value → Prop
  | .int k n, v => v = .int k n
  | .bool b, v => v = .bool b
  | .str l, v => v = .string ⟨l.toArray⟩
  | .exact x, v => v = x ∧ one x
  | .nilS, v => v = .slice none 0 0
  | .agg cs, v => ∃ vs, v = .agg vs.toArray ∧ (∀ u ∈ vs, one u) ∧ RPL ok w cs vs
  | .lst L, v => ∃ A cap sz, v = .slice A L.length cap ∧ L.length ≤ cap ∧ cap ≤ maxLen ∧ RPE ok w sz L A 0
def RPL (ok : Nat → Prop) (w : World) : List PV → List Value → Prop
  | [], [] => True
  | x :: xs, v :: vs => RP ok w x v ∧ RPL ok w xs vs
  | _, _ => False
def RPE (ok : Nat → Prop) (w : World) (sz : Nat) : List PV → Option Addr → Nat → Prop
  | [], _, _ => True
  | x :: xs, A, i => (∃ ad c, A = some ad ∧ ok ad.block ∧ RP ok w x c ∧ c.cells.size = sz ∧ ∀ j u, c.cells[j]? = some u → w.cell? (ad.add (i * sz + j)) = some u) ∧ RPE ok w sz xs A (i + 1)
end

mutual
def R (ok : Nat → Prop) (β : Nat → Value) (w : World) : SV → Value → Prop
  | .no, _ => True
  | .p x, v => RP ok w x v
  | .elt y, v => ∃ (ad : Addr) (c : Value), v = .pointer (some ad) ∧ ok ad.block ∧ RP ok w y c ∧ ∀ j u, c.cells[j]? = some u → w.cell? (ad.add j) = some u
  | .eltF y f, v => ∃ (ad : Addr) (c : Value), v = .pointer (some (ad.add f)) ∧ ok ad.block ∧ RP ok w y c ∧ ∀ j u, c.cells[j]? = some u → w.cell? (ad.add j) = some u
  | .rowE κ sz i, v => ∃ g n cap, β κ = .slice (some ⟨g, 0, none⟩) n cap ∧ v = .pointer (some ((⟨g, 0, none⟩ : Addr).add (i * sz)))
  | .ptr κ off, v => ∃ b, β κ = .pointer (some ⟨b, 0, none⟩) ∧ v = .pointer (some ⟨b, off, none⟩)
  | .slc κ, v => v = β κ ∧ one v
  | .fn f caps, v => ∃ vs, v = .func (.func f) #[] vs.toArray ∧ RL ok β w caps vs
  | .mix cs, v => ∃ vs, v = .agg vs.toArray ∧ (∀ u ∈ vs, one u) ∧ RL ok β w cs vs
  | .tupS cs, v => ∃ vs, v = .tuple vs.toArray ∧ RL ok β w cs vs
  | .glob g, v => v = .pointer (some ⟨g, 0, none⟩)
  | .nilQ L, v => ∃ b, v = .bool b ∧ (b = true → L = [])
def RL (ok : Nat → Prop) (β : Nat → Value) (w : World) : List SV → List Value → Prop
  | [], [] => True
  | x :: xs, v :: vs => R ok β w x v ∧ RL ok β w xs vs
  | _, _ => False
end

/-- The blocks that are let be hold what they held. -/
def Stay (ok : Nat → Prop) (w w' : World) : Prop := ∀ b, ok b → b < w.heap.size → w'.heap[b]? = w.heap[b]?
theorem Stay.refl (ok : Nat → Prop) (w : World) : Stay ok w w := fun _ _ _ => rfl
theorem Stay.cell {ok : Nat → Prop} {w w' : World} (h : Stay ok w w') {a : Addr} {u : Value} (ho : ok a.block) (hc : w.cell? a = some u) : w'.cell? a = some u := by
  have hlt : a.block < w.heap.size := World.block_lt_of_cell? w a hc
  rw [World.cell?_of_block (h a.block ho hlt)]
  exact hc
theorem add_block (ad : Addr) (n : Nat) : (ad.add n).block = ad.block := by unfold Addr.add; split <;> rfl

mutual
theorem RP_stay {ok ok' : Nat → Prop} {w w' : World} (hok : ∀ b, ok b → ok' b) (hs : Stay ok w w') : ∀ {x : PV} {v : Value}, RP ok w x v → RP ok' w' x v
  | .int k n, v, h => h
  | .bool b, v, h => h
  | .str l, v, h => h
  | .exact x, v, h => h
  | .nilS, v, h => h
  | .agg cs, v, h => by
    obtain ⟨vs, h1, h2, h3⟩ := h
    exact ⟨vs, h1, h2, RPL_stay hok hs h3⟩
  | .lst L, v, h => by
    obtain ⟨A, cap, sz, h1, h2, h3, h4⟩ := h
    exact ⟨A, cap, sz, h1, h2, h3, RPE_stay hok hs h4⟩
theorem RPL_stay {ok ok' : Nat → Prop} {w w' : World} (hok : ∀ b, ok b → ok' b) (hs : Stay ok w w') : ∀ {xs : List PV} {vs : List Value}, RPL ok w xs vs → RPL ok' w' xs vs
  | [], [], h => trivial
  | [], _ :: _, h => h
  | _ :: _, [], h => h
  | x :: xs, v :: vs, h => ⟨RP_stay hok hs h.1, RPL_stay hok hs h.2⟩
theorem RPE_stay {ok ok' : Nat → Prop} {w w' : World} (hok : ∀ b, ok b → ok' b) (hs : Stay ok w w') {sz : Nat} {A : Option Addr} : ∀ {xs : List PV} {i : Nat}, RPE ok w sz xs A i → RPE ok' w' sz xs A i
  | [], _, h => trivial
  | x :: xs, i, h => by
    obtain ⟨⟨ad, c, h1, h2, h3, h4, h6⟩, h7⟩ := h
    exact ⟨⟨ad, c, h1, hok _ h2, RP_stay hok hs h3, h4, fun j u hj => hs.cell (by rw [add_block]; exact h2) (h6 j u hj)⟩, RPE_stay hok hs h7⟩
end
mutual
theorem R_stay {ok ok' : Nat → Prop} {β : Nat → Value} {w w' : World} (hok : ∀ b, ok b → ok' b) (hs : Stay ok w w') : ∀ {x : SV} {v : Value}, R ok β w x v → R ok' β w' x v
  | .no, v, h => trivial
  | .p x, v, h => RP_stay hok hs h
  | .elt y, v, h => by
    obtain ⟨ad, c, h1, h2, h3, h4⟩ := h
    exact ⟨ad, c, h1, hok _ h2, RP_stay hok hs h3, fun j u hj => hs.cell (by rw [add_block]; exact h2) (h4 j u hj)⟩
  | .eltF y f, v, h => by
    obtain ⟨ad, c, h1, h2, h3, h4⟩ := h
    exact ⟨ad, c, h1, hok _ h2, RP_stay hok hs h3, fun j u hj => hs.cell (by rw [add_block]; exact h2) (h4 j u hj)⟩
  | .rowE κ sz i, v, h => h
  | .ptr κ off, v, h => h
  | .slc κ, v, h => h
  | .fn f caps, v, h => by
    obtain ⟨vs, h1, h2⟩ := h
    exact ⟨vs, h1, RL_stay hok hs h2⟩
  | .mix cs, v, h => by
    obtain ⟨vs, h1, h2, h3⟩ := h
    exact ⟨vs, h1, h2, RL_stay hok hs h3⟩
  | .tupS cs, v, h => by
    obtain ⟨vs, h1, h2⟩ := h
    exact ⟨vs, h1, RL_stay hok hs h2⟩
  | .glob g, v, h => h
  | .nilQ L, v, h => h
theorem RL_stay {ok ok' : Nat → Prop} {β : Nat → Value} {w w' : World} (hok : ∀ b, ok b → ok' b) (hs : Stay ok w w') : ∀ {xs : List SV} {vs : List Value}, RL ok β w xs vs → RL ok' β w' xs vs
  | [], [], h => trivial
  | [], _ :: _, h => h
  | _ :: _, [], h => h
  | x :: xs, v :: vs, h => ⟨R_stay hok hs h.1, RL_stay hok hs h.2⟩
end

/- the keys of the objects that a content names -/
mutual
def SV.keys : SV → List Nat
  | .ptr κ _ => [κ]
  | .slc κ => [κ]
  | .rowE κ _ _ => [κ]
  | .fn _ caps => SV.keysL caps
  | .mix cs => SV.keysL cs
  | .tupS cs => SV.keysL cs
  | .no | .p _ | .elt _ | .eltF _ _ | .glob _ | .nilQ _ => []
def SV.keysL : List SV → List Nat
  | [] => []
  | x :: xs => x.keys ++ SV.keysL xs
end
def AO.keys : AO → List Nat
  | .var _ _ x => x.keys
  | _ => []
def AO.live : AO → Bool
  | .no => false
  | _ => true

mutual
/-- Only the keys that are named matter. -/
theorem R_keys {ok : Nat → Prop} {β β' : Nat → Value} {w : World} : ∀ {x : SV} {v : Value}, (∀ κ ∈ x.keys, β' κ = β κ) → R ok β w x v → R ok β' w x v
  | .no, v, hk, h => h
  | .p x, v, hk, h => h
  | .elt y, v, hk, h => h
  | .eltF y f, v, hk, h => h
  | .rowE κ sz i, v, hk, h => by
    have e := hk κ (by simp [SV.keys])
    obtain ⟨g, n, cap, h1, h2⟩ := h
    exact ⟨g, n, cap, by rw [e]; exact h1, h2⟩
  | .ptr κ off, v, hk, h => by
    have e := hk κ (by simp [SV.keys])
    obtain ⟨b, h1, h2⟩ := h
    exact ⟨b, by rw [e]; exact h1, h2⟩
  | .slc κ, v, hk, h => by
    have e := hk κ (by simp [SV.keys])
    rw [R] at h ⊢
    rw [e]; exact h
  | .fn f caps, v, hk, h => by
    obtain ⟨vs, h1, h2⟩ := h
    exact ⟨vs, h1, RL_keys (fun κ hκ => hk κ (by simpa [SV.keys] using hκ)) h2⟩
  | .mix cs, v, hk, h => by
    obtain ⟨vs, h1, h2, h3⟩ := h
    exact ⟨vs, h1, h2, RL_keys (fun κ hκ => hk κ (by simpa [SV.keys] using hκ)) h3⟩
  | .tupS cs, v, hk, h => by
    obtain ⟨vs, h1, h2⟩ := h
    exact ⟨vs, h1, RL_keys (fun κ hκ => hk κ (by simpa [SV.keys] using hκ)) h2⟩
  | .glob g, v, hk, h => h
  | .nilQ L, v, hk, h => h
theorem RL_keys {ok : Nat → Prop} {β β' : Nat → Value} {w : World} : ∀ {xs : List SV} {vs : List Value}, (∀ κ ∈ SV.keysL xs, β' κ = β κ) → RL ok β w xs vs → RL ok β' w xs vs
  | [], [], hk, h => trivial
  | [], _ :: _, hk, h => h
  | _ :: _, [], hk, h => h
  | x :: xs, v :: vs, hk, h => ⟨R_keys (fun κ hκ => hk κ (by simp [SV.keysL, hκ])) h.1, RL_keys (fun κ hκ => hk κ (by simp [SV.keysL, hκ])) h.2⟩
end
theorem RPL_length {ok : Nat → Prop} {w : World} : ∀ {xs : List PV} {vs : List Value}, RPL ok w xs vs → vs.length = xs.length
  | [], [], h => rfl
  | [], _ :: _, h => h.elim
  | _ :: _, [], h => h.elim
  | x :: xs, v :: vs, h => by simp [RPL_length h.2]
theorem RL_length {ok : Nat → Prop} {β : Nat → Value} {w : World} : ∀ {xs : List SV} {vs : List Value}, RL ok β w xs vs → vs.length = xs.length
  | [], [], h => rfl
  | [], _ :: _, h => h.elim
  | _ :: _, [], h => h.elim
  | x :: xs, v :: vs, h => by simp [RL_length h.2]
theorem RPL_get {ok : Nat → Prop} {w : World} : ∀ {xs : List PV} {vs : List Value} {i : Nat} {x : PV}, RPL ok w xs vs → xs[i]? = some x → ∃ v, vs[i]? = some v ∧ RP ok w x v
  | [], [], i, x, h, e => by simp at e
  | [], _ :: _, i, x, h, e => h.elim
  | _ :: _, [], i, x, h, e => h.elim
  | y :: xs, v :: vs, 0, x, h, e => by
    simp at e; subst e
    exact ⟨v, rfl, h.1⟩
  | y :: xs, v :: vs, i + 1, x, h, e => by
    simp at e
    simpa using RPL_get h.2 e
theorem RL_get {ok : Nat → Prop} {β : Nat → Value} {w : World} : ∀ {xs : List SV} {vs : List Value} {i : Nat} {x : SV}, RL ok β w xs vs → xs[i]? = some x → ∃ v, vs[i]? = some v ∧ R ok β w x v
  | [], [], i, x, h, e => by simp at e
  | [], _ :: _, i, x, h, e => h.elim
  | _ :: _, [], i, x, h, e => h.elim
  | y :: xs, v :: vs, 0, x, h, e => by
    simp at e; subst e
    exact ⟨v, rfl, h.1⟩
  | y :: xs, v :: vs, i + 1, x, h, e => by
    simp at e
    simpa using RL_get h.2 e
theorem RPE_get {ok : Nat → Prop} {w : World} {sz : Nat} {A : Option Addr} : ∀ {xs : List PV} {k i : Nat} {x : PV}, RPE ok w sz xs A k → xs[i]? = some x →
    ∃ ad c, A = some ad ∧ ok ad.block ∧ RP ok w x c ∧ c.cells.size = sz ∧ ∀ j u, c.cells[j]? = some u → w.cell? (ad.add ((k + i) * sz + j)) = some u
  | [], k, i, x, h, e => by simp at e
  | y :: xs, k, 0, x, h, e => by
    simp at e; subst e
    simpa using h.1
  | y :: xs, k, i + 1, x, h, e => by
    simp at e
    have := RPE_get h.2 e
    rwa [show k + 1 + i = k + (i + 1) by omega] at this
theorem RPE_of {ok : Nat → Prop} {w : World} {sz : Nat} {A : Option Addr} : ∀ {xs : List PV} {k : Nat},
    (∀ i x, xs[i]? = some x → ∃ ad c, A = some ad ∧ ok ad.block ∧ RP ok w x c ∧ c.cells.size = sz ∧ ∀ j u, c.cells[j]? = some u → w.cell? (ad.add ((k + i) * sz + j)) = some u) → RPE ok w sz xs A k
  | [], k, h => trivial
  | y :: xs, k, h => ⟨by simpa using h 0 y rfl, RPE_of fun i x e => by
      have := h (i + 1) x (by simpa using e)
      rwa [show k + (i + 1) = k + 1 + i by omega] at this⟩
/-- A datum's cells are of one cell each; how many there are, and whether it is a struct, its shape tells. -/
theorem RP_one {ok : Nat → Prop} {w : World} {x : PV} {v : Value} (h : RP ok w x v) : (∀ u ∈ v.cells.toList, one u) ∧ v.cells.size = x.shape.2 ∧ (x.shape.1 = true → v = .agg v.cells) ∧ (x.shape.1 = false → one v) := by
  cases x with
  | int k n => rw [RP] at h; subst h; simp [one, Value.oneCell', Value.cells, PV.shape]
  | bool b => rw [RP] at h; subst h; simp [one, Value.oneCell', Value.cells, PV.shape]
  | str l => rw [RP] at h; subst h; simp [one, Value.oneCell', Value.cells, PV.shape]
  | nilS => rw [RP] at h; subst h; simp [one, Value.oneCell', Value.cells, PV.shape]
  | exact u =>
    rw [RP] at h
    obtain ⟨rfl, h1⟩ := h
    have h2 : v.cells = #[v] := one_cells h1
    rw [h2]
    simp [PV.shape, h1]
  | agg cs =>
    rw [RP] at h
    obtain ⟨vs, rfl, h2, h3⟩ := h
    simp [Value.cells, PV.shape, RPL_length h3]
    exact h2
  | lst L =>
    rw [RP] at h
    obtain ⟨A, cap, sz, rfl, _⟩ := h
    simp [one, Value.oneCell', Value.cells, PV.shape]
end Go.Vc
