/- The statement TopTickets, without a condition: a ticket of one KDC is none of another one's. Part 1: Wa. -/
import Derived.Maps.AppendAt
import Derived.Below
import Derived.Tactics
import Derived.Orders
import Derived.ScopeJumps
import Derived.Laws.Cells
import Derived.Laws.Entries
import Derived.Laws.AppendOwn
set_option linter.unusedVariables false
namespace Go.Vc
open Go Go.RowKit
inductive PV where
 | int (k : IntKind) (n : Int)
 | bool (b : Bool)
 | str (l : List UInt8)
 | exact (v : Value)
 | nilS
 | err
 | agg (cs : List PV)
 | lst (L : List PV)
instance : Inhabited PV := ⟨.nilS⟩
def PV.shape : PV → Bool × Nat
 | .agg cs => (true, cs.length)
 | _ => (false, 1)
inductive SV where
 | no
 | p (x : PV)
 | elt (y : PV)
 | eltF (y : PV) (f : Nat)
 | rowE (κ : Nat) (sz : Nat) (i : Nat)
 | tl (κ : Nat) (sz : Nat) (i : Nat)
 | ptr (κ : Nat) (off : Nat)
 | slc (κ : Nat)
 | fn (f : FuncId) (caps : List SV)
 | mix (cs : List SV)
 | tupS (cs : List SV)
 | glob (g : Nat)
 | nilQ (L : List PV)
inductive MK where
 | s (l : List UInt8)
 | n (k : Int)
 deriving DecidableEq
def MK.isS : MK → Bool
 | .s _ => true
 | .n _ => false
def MK.val : MK → Value
 | .s l => .string ⟨l.toArray⟩
 | .n k => .int .i64 k
def MK.pv : MK → PV
 | .s l => .str l
 | .n k => .int .i64 k
inductive AO where
 | no
 | var (own : Bool) (t : TypeId) (x : SV)
 | row (t : TypeId) (sz : Nat) (L : List PV)
 | mp (t : TypeId) (sk : Bool) (L : List (MK × PV))
 | fm (t : TypeId) (ks : List MK) (xs : List SV)
 | it (l : List UInt8) (pos : Nat)
 | rp (t : TypeId) (xs : List SV)
 | ms (t : TypeId) (sk : Bool) (L : List (MK × PV)) (B : List Nat) (c m : Nat)
 | mi (κ m since : Nat) (seen : List Nat) (last : Nat)
def one (v : Value) : Prop := v.oneCell' = true
theorem one_cells {v : Value} (h : one v) : v.cells = #[v] := by cases v <;> first | rfl | (simp [one, Value.oneCell'] at h)
mutual
def RP (ok : Nat → Prop) (w : World) : PV → Value → Prop
 | .int k n, v => v = .int k n
 | .bool b, v => v = .bool b
 | .str l, v => v = .string ⟨l.toArray⟩
 | .exact x, v => v = x ∧ one x
 | .nilS, v => v = .slice none 0 0
 | .err, v => ∃ t x, v = .iface t x
 | .agg cs, v => ∃ vs, v = .agg vs.toArray ∧ (∀ u ∈ vs, one u) ∧ RPL ok w cs vs
 | .lst L, v => ∃ A cap sz, v = .slice A L.length cap ∧ L.length ≤ cap ∧ cap ≤ maxLen ∧ RPE ok w sz L A 0
def RPL (ok : Nat → Prop) (w : World) : List PV → List Value → Prop
 | [], [] => True
 | x :: xs, v :: vs => RP ok w x v ∧ RPL ok w xs vs
 | _, _ => False
def RPE (ok : Nat → Prop) (w : World) (sz : Nat) : List PV → Option Addr → Nat → Prop
 | [], _, _ => True
 | x :: xs, A, i => (∃ ad c, A = some ad ∧ ok ad.block ∧ RP ok w x c ∧ c.cells.size = sz ∧ ∀ j u, c.cells[j]? = some u → w.cell? (ad.add (i * sz + j)) = some u) ∧ RPE ok w sz xs A (i + 1)
end
mutual
def R (ok : Nat → Prop) (β : Nat → Value) (w : World) : SV → Value → Prop
 | .no, _ => True
 | .p x, v => RP ok w x v
 | .elt y, v => ∃ (ad : Addr) (c : Value), v = .pointer (some ad) ∧ ok ad.block ∧ RP ok w y c ∧ ∀ j u, c.cells[j]? = some u → w.cell? (ad.add j) = some u
 | .eltF y f, v => ∃ (ad : Addr) (c : Value), v = .pointer (some (ad.add f)) ∧ ok ad.block ∧ RP ok w y c ∧ ∀ j u, c.cells[j]? = some u → w.cell? (ad.add j) = some u
 | .rowE κ sz i, v => ∃ g n cap, β κ = .slice (some ⟨g, 0, none⟩) n cap ∧ v = .pointer (some ((⟨g, 0, none⟩ : Addr).add (i * sz)))
 | .tl κ sz i, v => ∃ g n cap, β κ = .slice (some ⟨g, 0, none⟩) n cap ∧ v = .slice (some ((⟨g, 0, none⟩ : Addr).add (i * sz))) (n - i) (cap - i)
 | .ptr κ off, v => ∃ b, β κ = .pointer (some ⟨b, 0, none⟩) ∧ v = .pointer (some ⟨b, off, none⟩)
 | .slc κ, v => v = β κ ∧ one v
 | .fn f caps, v => ∃ vs, v = .func (.func f) #[] vs.toArray ∧ RL ok β w caps vs
 | .mix cs, v => ∃ vs, v = .agg vs.toArray ∧ (∀ u ∈ vs, one u) ∧ RL ok β w cs vs
 | .tupS cs, v => ∃ vs, v = .tuple vs.toArray ∧ RL ok β w cs vs
 | .glob g, v => v = .pointer (some ⟨g, 0, none⟩)
 | .nilQ L, v => ∃ b, v = .bool b ∧ (b = true → L = [])
def RL (ok : Nat → Prop) (β : Nat → Value) (w : World) : List SV → List Value → Prop
 | [], [] => True
 | x :: xs, v :: vs => R ok β w x v ∧ RL ok β w xs vs
 | _, _ => False
end
def Stay (ok : Nat → Prop) (w w' : World) : Prop := ∀ b, ok b → b < w.heap.size → w'.heap[b]? = w.heap[b]?
theorem Stay.refl (ok : Nat → Prop) (w : World) : Stay ok w w := fun _ _ _ => rfl
theorem Stay.cell {ok : Nat → Prop} {w w' : World} (h : Stay ok w w') {a : Addr} {u : Value} (ho : ok a.block) (hc : w.cell? a = some u) : w'.cell? a = some u := by
 have hlt : a.block < w.heap.size := World.block_lt_of_cell? w a hc
 rw [World.cell?_of_block (h a.block ho hlt)]
 exact hc
theorem add_block (ad : Addr) (n : Nat) : (ad.add n).block = ad.block := by unfold Addr.add; split <;> rfl
mutual
theorem RP_stay {ok ok' : Nat → Prop} {w w' : World} (hok : ∀ b, ok b → ok' b) (hs : Stay ok w w') : ∀ {x : PV} {v : Value}, RP ok w x v → RP ok' w' x v
 | .int k n, v, h => h
 | .bool b, v, h => h
 | .str l, v, h => h
 | .exact x, v, h => h
 | .nilS, v, h => h
 | .err, v, h => h
 | .agg cs, v, h => by
  obtain ⟨vs, h1, h2, h3⟩ := h
  exact ⟨vs, h1, h2, RPL_stay hok hs h3⟩
 | .lst L, v, h => by
  obtain ⟨A, cap, sz, h1, h2, h3, h4⟩ := h
  exact ⟨A, cap, sz, h1, h2, h3, RPE_stay hok hs h4⟩
theorem RPL_stay {ok ok' : Nat → Prop} {w w' : World} (hok : ∀ b, ok b → ok' b) (hs : Stay ok w w') : ∀ {xs : List PV} {vs : List Value}, RPL ok w xs vs → RPL ok' w' xs vs
 | [], [], h => trivial
 | [], _ :: _, h => h
 | _ :: _, [], h => h
 | x :: xs, v :: vs, h => ⟨RP_stay hok hs h.1, RPL_stay hok hs h.2⟩
theorem RPE_stay {ok ok' : Nat → Prop} {w w' : World} (hok : ∀ b, ok b → ok' b) (hs : Stay ok w w') {sz : Nat} {A : Option Addr} : ∀ {xs : List PV} {i : Nat}, RPE ok w sz xs A i → RPE ok' w' sz xs A i
 | [], _, h => trivial
 | x :: xs, i, h => by
  obtain ⟨⟨ad, c, h1, h2, h3, h4, h6⟩, h7⟩ := h
  exact ⟨⟨ad, c, h1, hok _ h2, RP_stay hok hs h3, h4, fun j u hj => hs.cell (by rw [add_block]; exact h2) (h6 j u hj)⟩, RPE_stay hok hs h7⟩
end
mutual
theorem R_stay {ok ok' : Nat → Prop} {β : Nat → Value} {w w' : World} (hok : ∀ b, ok b → ok' b) (hs : Stay ok w w') : ∀ {x : SV} {v : Value}, R ok β w x v → R ok' β w' x v
 | .no, v, h => trivial
 | .p x, v, h => RP_stay hok hs h
 | .elt y, v, h => by
  obtain ⟨ad, c, h1, h2, h3, h4⟩ := h
  exact ⟨ad, c, h1, hok _ h2, RP_stay hok hs h3, fun j u hj => hs.cell (by rw [add_block]; exact h2) (h4 j u hj)⟩
 | .eltF y f, v, h => by
  obtain ⟨ad, c, h1, h2, h3, h4⟩ := h
  exact ⟨ad, c, h1, hok _ h2, RP_stay hok hs h3, fun j u hj => hs.cell (by rw [add_block]; exact h2) (h4 j u hj)⟩
 | .rowE κ sz i, v, h => h
 | .tl κ sz i, v, h => h
 | .ptr κ off, v, h => h
 | .slc κ, v, h => h
 | .fn f caps, v, h => by
  obtain ⟨vs, h1, h2⟩ := h
  exact ⟨vs, h1, RL_stay hok hs h2⟩
 | .mix cs, v, h => by
  obtain ⟨vs, h1, h2, h3⟩ := h
  exact ⟨vs, h1, h2, RL_stay hok hs h3⟩
 | .tupS cs, v, h => by
  obtain ⟨vs, h1, h2⟩ := h
  exact ⟨vs, h1, RL_stay hok hs h2⟩
 | .glob g, v, h => h
 | .nilQ L, v, h => h
theorem RL_stay {ok ok' : Nat → Prop} {β : Nat → Value} {w w' : World} (hok : ∀ b, ok b → ok' b) (hs : Stay ok w w') : ∀ {xs : List SV} {vs : List Value}, RL ok β w xs vs → RL ok' β w' xs vs
 | [], [], h => trivial
 | [], _ :: _, h => h
 | _ :: _, [], h => h
 | x :: xs, v :: vs, h => ⟨R_stay hok hs h.1, RL_stay hok hs h.2⟩
end
mutual
def SV.keys : SV → List Nat
 | .ptr κ _ => [κ]
 | .slc κ => [κ]
 | .rowE κ _ _ => [κ]
 | .tl κ _ _ => [κ]
 | .fn _ caps => SV.keysL caps
 | .mix cs => SV.keysL cs
 | .tupS cs => SV.keysL cs
 | .no | .p _ | .elt _ | .eltF _ _ | .glob _ | .nilQ _ => []
def SV.keysL : List SV → List Nat
 | [] => []
 | x :: xs => x.keys ++ SV.keysL xs
end
def AO.keys : AO → List Nat
 | .var _ _ x => x.keys
 | .fm _ _ xs => SV.keysL xs
 | .rp _ xs => SV.keysL xs
 | _ => []
def AO.live : AO → Bool
 | .no => false
 | _ => true
mutual
theorem R_keys {ok : Nat → Prop} {β β' : Nat → Value} {w : World} : ∀ {x : SV} {v : Value}, (∀ κ ∈ x.keys, β' κ = β κ) → R ok β w x v → R ok β' w x v
 | .no, v, hk, h => h
 | .p x, v, hk, h => h
 | .elt y, v, hk, h => h
 | .eltF y f, v, hk, h => h
 | .rowE κ sz i, v, hk, h => by
  have e := hk κ (by simp [SV.keys])
  obtain ⟨g, n, cap, h1, h2⟩ := h
  exact ⟨g, n, cap, by rw [e]; exact h1, h2⟩
 | .tl κ sz i, v, hk, h => by
  have e := hk κ (by simp [SV.keys])
  obtain ⟨g, n, cap, h1, h2⟩ := h
  exact ⟨g, n, cap, by rw [e]; exact h1, h2⟩
 | .ptr κ off, v, hk, h => by
  have e := hk κ (by simp [SV.keys])
  obtain ⟨b, h1, h2⟩ := h
  exact ⟨b, by rw [e]; exact h1, h2⟩
 | .slc κ, v, hk, h => by
  have e := hk κ (by simp [SV.keys])
  rw [R] at h ⊢
  rw [e]; exact h
 | .fn f caps, v, hk, h => by
  obtain ⟨vs, h1, h2⟩ := h
  exact ⟨vs, h1, RL_keys (fun κ hκ => hk κ (by simpa [SV.keys] using hκ)) h2⟩
 | .mix cs, v, hk, h => by
  obtain ⟨vs, h1, h2, h3⟩ := h
  exact ⟨vs, h1, h2, RL_keys (fun κ hκ => hk κ (by simpa [SV.keys] using hκ)) h3⟩
 | .tupS cs, v, hk, h => by
  obtain ⟨vs, h1, h2⟩ := h
  exact ⟨vs, h1, RL_keys (fun κ hκ => hk κ (by simpa [SV.keys] using hκ)) h2⟩
 | .glob g, v, hk, h => h
 | .nilQ L, v, hk, h => h
theorem RL_keys {ok : Nat → Prop} {β β' : Nat → Value} {w : World} : ∀ {xs : List SV} {vs : List Value}, (∀ κ ∈ SV.keysL xs, β' κ = β κ) → RL ok β w xs vs → RL ok β' w xs vs
 | [], [], hk, h => trivial
 | [], _ :: _, hk, h => h
 | _ :: _, [], hk, h => h
 | x :: xs, v :: vs, hk, h => ⟨R_keys (fun κ hκ => hk κ (by simp [SV.keysL, hκ])) h.1, RL_keys (fun κ hκ => hk κ (by simp [SV.keysL, hκ])) h.2⟩
end
theorem RPL_length {ok : Nat → Prop} {w : World} : ∀ {xs : List PV} {vs : List Value}, RPL ok w xs vs → vs.length = xs.length
 | [], [], h => rfl
 | [], _ :: _, h => h.elim
 | _ :: _, [], h => h.elim
 | x :: xs, v :: vs, h => by simp [RPL_length h.2]
theorem RL_length {ok : Nat → Prop} {β : Nat → Value} {w : World} : ∀ {xs : List SV} {vs : List Value}, RL ok β w xs vs → vs.length = xs.length
 | [], [], h => rfl
 | [], _ :: _, h => h.elim
 | _ :: _, [], h => h.elim
 | x :: xs, v :: vs, h => by simp [RL_length h.2]
theorem RPL_get {ok : Nat → Prop} {w : World} : ∀ {xs : List PV} {vs : List Value} {i : Nat} {x : PV}, RPL ok w xs vs → xs[i]? = some x → ∃ v, vs[i]? = some v ∧ RP ok w x v
 | [], [], i, x, h, e => by simp at e
 | [], _ :: _, i, x, h, e => h.elim
 | _ :: _, [], i, x, h, e => h.elim
 | y :: xs, v :: vs, 0, x, h, e => by
  simp at e; subst e
  exact ⟨v, rfl, h.1⟩
 | y :: xs, v :: vs, i + 1, x, h, e => by
  simp at e
  simpa using RPL_get h.2 e
theorem RL_get {ok : Nat → Prop} {β : Nat → Value} {w : World} : ∀ {xs : List SV} {vs : List Value} {i : Nat} {x : SV}, RL ok β w xs vs → xs[i]? = some x → ∃ v, vs[i]? = some v ∧ R ok β w x v
 | [], [], i, x, h, e => by simp at e
 | [], _ :: _, i, x, h, e => h.elim
 | _ :: _, [], i, x, h, e => h.elim
 | y :: xs, v :: vs, 0, x, h, e => by
  simp at e; subst e
  exact ⟨v, rfl, h.1⟩
 | y :: xs, v :: vs, i + 1, x, h, e => by
  simp at e
  simpa using RL_get h.2 e
theorem RPE_get {ok : Nat → Prop} {w : World} {sz : Nat} {A : Option Addr} : ∀ {xs : List PV} {k i : Nat} {x : PV}, RPE ok w sz xs A k → xs[i]? = some x →
  ∃ ad c, A = some ad ∧ ok ad.block ∧ RP ok w x c ∧ c.cells.size = sz ∧ ∀ j u, c.cells[j]? = some u → w.cell? (ad.add ((k + i) * sz + j)) = some u
 | [], k, i, x, h, e => by simp at e
 | y :: xs, k, 0, x, h, e => by
  simp at e; subst e
  simpa using h.1
 | y :: xs, k, i + 1, x, h, e => by
  simp at e
  have := RPE_get h.2 e
  rwa [show k + 1 + i = k + (i + 1) by omega] at this
theorem RPE_of {ok : Nat → Prop} {w : World} {sz : Nat} {A : Option Addr} : ∀ {xs : List PV} {k : Nat},
  (∀ i x, xs[i]? = some x → ∃ ad c, A = some ad ∧ ok ad.block ∧ RP ok w x c ∧ c.cells.size = sz ∧ ∀ j u, c.cells[j]? = some u → w.cell? (ad.add ((k + i) * sz + j)) = some u) → RPE ok w sz xs A k
 | [], k, h => trivial
 | y :: xs, k, h => ⟨by simpa using h 0 y rfl, RPE_of fun i x e => by
   have := h (i + 1) x (by simpa using e)
   rwa [show k + (i + 1) = k + 1 + i by omega] at this⟩
theorem RP_one {ok : Nat → Prop} {w : World} {x : PV} {v : Value} (h : RP ok w x v) : (∀ u ∈ v.cells.toList, one u) ∧ v.cells.size = x.shape.2 ∧ (x.shape.1 = true → v = .agg v.cells) ∧ (x.shape.1 = false → one v) := by
 cases x with
 | int k n => rw [RP] at h; subst h; simp [one, Value.oneCell', Value.cells, PV.shape]
 | bool b => rw [RP] at h; subst h; simp [one, Value.oneCell', Value.cells, PV.shape]
 | str l => rw [RP] at h; subst h; simp [one, Value.oneCell', Value.cells, PV.shape]
 | nilS => rw [RP] at h; subst h; simp [one, Value.oneCell', Value.cells, PV.shape]
 | err => rw [RP] at h; obtain ⟨t, x, rfl⟩ := h; simp [one, Value.oneCell', Value.cells, PV.shape]
 | exact u =>
  rw [RP] at h
  obtain ⟨rfl, h1⟩ := h
  have h2 : v.cells = #[v] := one_cells h1
  rw [h2]
  simp [PV.shape, h1]
 | agg cs =>
  rw [RP] at h
  obtain ⟨vs, rfl, h2, h3⟩ := h
  simp [Value.cells, PV.shape, RPL_length h3]
  exact h2
 | lst L =>
  rw [RP] at h
  obtain ⟨A, cap, sz, rfl, _⟩ := h
  simp [one, Value.oneCell', Value.cells, PV.shape]
end Go.Vc
namespace Go.Vc
open Go Go.RowKit
structure TI where
 k : Nat
 agg : Bool
 sz : Nat
 bytes : Nat
 zero : PV
 flds : List (Nat × Nat)
 elem : Nat
 alen : Nat
structure Cx where
 P : Program
 T : Nat → Option TI
 tab : Nat → Option (List PV)
 X : (Nat → Prop) → World → Prop
structure S where
 ρ : Nat → SV
 η : Nat → AO
structure U where
 x : SV
 obj : Option AO := none
 st : Option (Nat × AO) := none
 kill : Option Nat := none
mutual
def SV.men (κ : Nat) : SV → Bool
 | .ptr κ' _ => Nat.beq κ' κ
 | .slc κ' => Nat.beq κ' κ
 | .rowE κ' _ _ => Nat.beq κ' κ
 | .tl κ' _ _ => Nat.beq κ' κ
 | .fn _ caps => SV.menL κ caps
 | .mix cs => SV.menL κ cs
 | .tupS cs => SV.menL κ cs
 | .no | .p _ | .elt _ | .eltF _ _ | .glob _ | .nilQ _ => false
def SV.menL (κ : Nat) : List SV → Bool
 | [] => false
 | x :: xs => x.men κ || SV.menL κ xs
end
def SV.purge (κ : Nat) : SV → SV
 | .mix cs => .mix (cs.map fun x => cond (x.men κ) .no x)
 | x => cond (x.men κ) .no x
def AO.purge (κ : Nat) : AO → AO
 | .var own t x => .var own t (x.purge κ)
 | .fm t ks xs => .fm t ks (xs.map fun x => cond (x.men κ) .no x)
 | .rp t xs => .rp t (xs.map fun x => cond (x.men κ) .no x)
 | o => o
def S.put (s : S) (d : Nat) (x : SV) : S := match s with | ⟨ρ, η⟩ => ⟨fun t => cond (Nat.beq t d) x (ρ t), η⟩
def S.set (s : S) (κ : Nat) (o : AO) : S := match s with | ⟨ρ, η⟩ => ⟨ρ, fun t => cond (Nat.beq t κ) o (η t)⟩
def S.kill (s : S) (κ : Nat) : S := match s with | ⟨ρ, η⟩ => ⟨fun t => (ρ t).purge κ, fun t => cond (Nat.beq t κ) .no ((η t).purge κ)⟩
def S.app (s : S) (dst : Option Nat) (u : U) : S :=
 let s := match u.kill with | some κ => s.kill κ | none => s
 let s := match u.st with | some (κ, o) => s.set κ o | none => s
 match dst with
 | none => s
 | some d => match u.obj with
  | some o => (s.set d o).put d u.x
  | none => s.put d u.x
def cv0 : Value → PV
 | .int k n => .int k n
 | .bool b => .bool b
 | .string s => .str s.data.toList
 | .slice none 0 0 => .nilS
 | v => .exact v
def cv : Value → SV
 | .agg cs => cond (cs.toList.all Value.oneCell') (.p (.agg (cs.toList.map cv0))) .no
 | .tuple _ => .no
 | v => .p (cv0 v)
def S.ev (s : S) : Operand → SV
 | .tmp t => s.ρ t
 | .const v => cv v
 | .global g => .glob g
 | .func f => .fn f []
def SV.shape : SV → Option (Bool × Nat)
 | .p x => some x.shape
 | .mix cs => some (true, cs.length)
 | .no | .tupS _ => none
 | _ => some (false, 1)
def SV.cells : SV → Option (List SV)
 | .p (.agg cs) => some (cs.map .p)
 | .mix cs => some cs
 | .no | .tupS _ => none
 | x => some [x]
def allP : List SV → Option (List PV)
 | [] => some []
 | .p x :: r => (allP r).map (x :: ·)
 | _ :: _ => none
def ofCells (l : List SV) : SV :=
 match allP l with
 | some ps => .p (.agg ps)
 | none => .mix l
def LE (x y : SV) : Prop := ∀ ok β w v, R ok β w x v → R ok β w y v
theorem LE.refl (x : SV) : LE x x := fun _ _ _ _ h => h
def LEL : List SV → List SV → Prop
 | [], [] => True
 | x :: xs, y :: ys => LE x y ∧ LEL xs ys
 | _, _ => False
def Stm (es : Array MapEntry) (clock : Nat) : Prop := (es.toList.map (·.born)).Nodup ∧ ∀ e ∈ es.toList, e.born < clock
def RRow (ok : Nat → Prop) (w : World) (sz : Nat) (L : List PV) (xs : List Value) : Prop :=
 xs.length = L.length * sz ∧ ∀ i x, L[i]? = some x → ∃ c, RP ok w x c ∧ c.cells.toList = (xs.drop (i * sz)).take sz
def OB (C : Cx) (ok : Nat → Prop) (β : Nat → Value) (w : World) (M : Nat → Prop) (κ : Nat) : AO → Prop
 | .no => True
 | .var own t x => ∃ b v, β κ = .pointer (some ⟨b, 0, none⟩) ∧ w.heap[b]? = some (.cells v.cells t (0, 0)) ∧ R ok β w x v ∧ ¬ ok b ∧ (own = true → M b) ∧
   (∀ u ∈ v.cells.toList, one u) ∧ ∀ ti, C.T t = some ti → v.cells.size = ti.sz ∧ (ti.agg = true → v = .agg v.cells) ∧ (ti.agg = false → one v)
 | .mp t sk L => ∃ r es clock, β κ = .map (some r) ∧ w.heap[r]? = some (.map es clock) ∧ ¬ ok r ∧ M r ∧ es.toList.map (·.key) = L.map (fun x => x.1.val) ∧ RPL ok w (L.map (·.2)) (es.toList.map (·.val)) ∧ (∀ x ∈ L, x.1.isS = sk) ∧ Stm es clock
 | .fm t ks L => ∃ r es clock, β κ = .map (some r) ∧ w.heap[r]? = some (.map es clock) ∧ ¬ ok r ∧ M r ∧ es.toList.map (·.key) = ks.map MK.val ∧ RL ok β w L (es.toList.map (·.val)) ∧ (∀ x ∈ ks, x.isS = false)
 | .row t sz L => 0 < sz ∧ (∃ xs, w.ownsRow 0 t sz (β κ) L.length xs ∧ RRow ok w sz L xs) ∧ ∀ k, (β κ).ownBlock = some k → ¬ ok k ∧ M k
 | .ms t sk L B clock r => ∃ es, β κ = .map (some r) ∧ w.heap[r]? = some (.map es clock) ∧ ¬ ok r ∧ M r ∧ es.toList.map (·.key) = L.map (fun x => x.1.val) ∧ RPL ok w (L.map (·.2)) (es.toList.map (·.val)) ∧ (∀ x ∈ L, x.1.isS = sk) ∧ es.toList.map (·.born) = B
 | .mi _ m since seen last => ∃ r, β κ = .pointer (some ⟨r, 0, none⟩) ∧ w.heap[r]? = some (.mapIter (some m) since seen.toArray last) ∧ ¬ ok r ∧ M r
 | .rp t xs => (∃ vs, w.ownsRow 0 t 1 (β κ) xs.length vs ∧ vs.length = xs.length ∧ (∀ u ∈ vs, one u) ∧ RL ok β w xs vs) ∧ ∀ k, (β κ).ownBlock = some k → ¬ ok k ∧ M k
 | .it l pos => ∃ r, β κ = .pointer (some ⟨r, 0, none⟩) ∧ w.heap[r]? = some (.stringIter ⟨l.toArray⟩ pos) ∧ ¬ ok r ∧ M r
def blockOf : Value → Option Nat
 | .pointer (some a) => some a.block
 | .slice (some a) _ _ => some a.block
 | .map (some r) => some r
 | _ => none
inductive Res where
 | pv (x : PV)
 | fresh (t sz : Nat) (L : List PV)
 | tup (xs : List PV)
def RES (ok : Nat → Prop) (w w' : World) : Res → Value → Prop
 | .pv x, v => RP (fun b => ok b ∨ w.heap.size ≤ b ∧ b < w'.heap.size) w' x v
 | .fresh t sz L, v => 0 < sz ∧ ∃ xs, w'.ownsRow w.heap.size t sz v L.length xs ∧ RRow (fun b => (ok b ∨ w.heap.size ≤ b ∧ b < w'.heap.size) ∧ v.ownBlock ≠ some b) w' sz L xs
 | .tup xs, v => ∃ vs, v = .tuple vs.toArray ∧ RPL (fun b => ok b ∨ w.heap.size ≤ b ∧ b < w'.heap.size) w' xs vs
def GX (C : Cx) (ok : Nat → Prop) (w : World) : Prop := C.X ok w ∧ ∀ g L, C.tab g = some L → ∃ sz, RPE ok w sz L (some ⟨g, 0, none⟩) 0
def FnOk (P : Program) (f : FuncId) : Prop := ∃ fn, P.funcs[f]? = some fn ∧ (fn.name == "runtime.NumGoroutine") = false ∧ fn.body.isNone = false
def AO.mine : AO → Bool
 | .var own _ _ => own
 | .row .. => true
 | .mp .. => true
 | .fm .. => true
 | .rp .. => true
 | .ms .. => true
 | .mi .. => true
 | .it .. => true
 | .no => false
structure PC (C : Cx) (f : FuncId) (ηi : Nat → AO) (args : List SV) (r : Res) : Prop where
 fn : FnOk C.P f
 run : ∀ (ok : Nat → Prop) (β : Nat → Value) (w : World) (vs : List Value), GX C ok w → (∀ b, ok b → b < w.heap.size) → RL ok β w args vs →
  (∀ κ, OB C ok β w (fun b => w.heap.size ≤ b) κ (ηi κ)) → (∀ κ ∈ SV.keysL args, (ηi κ).live = true) → (∀ κ κ', κ' ∈ (ηi κ).keys → (ηi κ').live = true) → (∀ κ, (ηi κ).mine = false) →
  Calls C.P f vs.toArray w fun e w' => ∃ v, e = .returned v ∧ RES ok w w' r v ∧ Below w.heap.size w w'
mutual
def SV.ren (g : Nat → Nat) : SV → SV
 | .ptr κ off => .ptr (g κ) off
 | .slc κ => .slc (g κ)
 | .rowE κ sz i => .rowE (g κ) sz i
 | .tl κ sz i => .tl (g κ) sz i
 | .fn f caps => .fn f (SV.renL g caps)
 | .mix cs => .mix (SV.renL g cs)
 | .tupS cs => .tupS (SV.renL g cs)
 | x => x
def SV.renL (g : Nat → Nat) : List SV → List SV
 | [] => []
 | x :: xs => x.ren g :: SV.renL g xs
end
def AO.ren (g : Nat → Nat) : AO → AO
 | .var own t x => .var own t (x.ren g)
 | .fm t ks xs => .fm t ks (SV.renL g xs)
 | .rp t xs => .rp t (SV.renL g xs)
 | o => o
def look : List (Nat × SV) → Nat → SV
 | [], _ => .no
 | (k, x) :: r, t => cond (Nat.beq t k) x (look r t)
def lookO : List (Nat × AO) → Nat → AO
 | [], _ => .no
 | (k, x) :: r, t => cond (Nat.beq t k) x (lookO r t)
def mblk (I : List (Nat × AO)) (β : Nat → Value) (b : Nat) : Prop := ∃ κ, (lookO I κ).mine = true ∧ blockOf (β κ) = some b
def okM (I : List (Nat × AO)) (args : List SV) (O : List (Nat × AO)) (x : SV) : Bool :=
 let li := fun κ => (lookO I κ).live
 let lo := fun κ => (lookO O κ).live || ((lookO I κ).live && !(lookO I κ).mine)
 (SV.keysL args).all li && I.all (fun y => y.2.live && y.2.keys.all li && (y.2.mine || Nat.ble 2000 y.1)) && O.all (fun y => y.2.mine && y.2.keys.all lo) && x.keys.all lo &&
  I.all (fun y => !y.2.mine || ((lookO O y.1).live || Nat.blt y.1 2000))
structure KeepB (M : Nat → Prop) (w w' : World) : Prop where
 os : w'.os = w.os
 tape : w'.tape = w.tape
 output : w'.output = w.output
 size : w.heap.size ≤ w'.heap.size
 block : ∀ b, b < w.heap.size → ¬ M b → w'.heap[b]? = w.heap[b]?
structure MRes (C : Cx) (I O : List (Nat × AO)) (x : SV) (ok : Nat → Prop) (β : Nat → Value) (w : World) (ok' : Nat → Prop) (β' : Nat → Value) (w' : World) (v : Value) : Prop where
 ok1 : ∀ b, ok b → ok' b
 ok2 : ∀ b, ok' b → b < w'.heap.size
 ok3 : ∀ b, ok' b → ok b ∨ mblk I β b ∨ w.heap.size ≤ b
 val : R ok' β' w' x v
 obs : ∀ κ, OB C ok' β' w' (fun b => mblk I β b ∨ w.heap.size ≤ b) κ (lookO O κ)
 dis : ∀ κ κ' b, (lookO O κ).live = true → (lookO O κ').live = true → blockOf (β' κ) = some b → blockOf (β' κ') = some b → κ = κ'
 pin : ∀ κ, 2000 ≤ κ → (lookO I κ).live = true → β' κ = β κ
 keep : KeepB (mblk I β) w w'
structure PM (C : Cx) (f : FuncId) (I : List (Nat × AO)) (args : List SV) (O : List (Nat × AO)) (x : SV) : Prop where
 fn : FnOk C.P f
 st : okM I args O x = true
 run : ∀ (ok : Nat → Prop) (β : Nat → Value) (w : World) (vs : List Value), GX C ok w → (∀ b, ok b → b < w.heap.size) → RL ok β w args vs → (∀ κ, OB C ok β w (fun _ => True) κ (lookO I κ)) →
  (∀ κ κ' b, (lookO I κ).mine = true → (lookO I κ').live = true → blockOf (β κ) = some b → blockOf (β κ') = some b → κ = κ') →
  Calls C.P f vs.toArray w fun e w' => ∃ v β' ok', e = .returned v ∧ MRes C I O x ok β w ok' β' w' v
def S.killL (s : S) : List Nat → S
 | [] => s
 | κ :: r => (s.kill κ).killL r
def overO (g : Nat → Nat) : List (Nat × AO) → (Nat → AO) → Nat → AO
 | [], e, k => e k
 | (κ, o) :: r, e, k => cond (Nat.beq k (g κ)) (o.ren g) (overO g r e k)
def movers (g : Nat → Nat) (I : List (Nat × AO)) : List Nat := (I.filter fun y => Nat.blt y.1 2000).map fun y => g y.1
def mAfter (s : S) (g : Nat → Nat) (I O : List (Nat × AO)) (d : Nat) (x : SV) : S :=
 match s.killL (movers g I) with
 | ⟨ρ, η⟩ => ⟨fun t => cond (Nat.beq t d) (x.ren g) (ρ t), overO g O η⟩
def OLM (a b : AO) : Prop := b = .no ∨ a = b ∨ (∃ own t x y, a = .var own t x ∧ b = .var own t y ∧ LE x y) ∨ (∃ t x y, a = .var true t x ∧ b = .var false t y ∧ LE x y)
structure MCallVC (C : Cx) (s : S) (f : FuncId) (args : List SV) (d : Nat) (s' : S) : Prop where mk ::
 out : ∃ (I : List (Nat × AO)) (args0 : List SV) (O : List (Nat × AO)) (x : SV) (g : Nat → Nat), PM C f I args0 O x ∧ LEL args (SV.renL g args0) ∧ (∀ κ, OLM (s.η (g κ)) ((lookO I κ).ren g)) ∧
  (∀ κ κ', ((lookO I κ).live || (lookO O κ).live) = true → ((lookO I κ').live || (lookO O κ').live) = true → g κ = g κ' → κ = κ') ∧
  (∀ κ, (lookO O κ).live = true → (lookO I κ).live = false → (s.η (g κ)).live = false ∧ g κ < 2000) ∧ (∀ κ, (lookO I κ).live = true → κ < 2000 → g κ < 2000) ∧ s' = mAfter s g I O d x
structure MCallVC0 (C : Cx) (q : Bool) (s : S) (f : FuncId) (args : List SV) (d : Nat) (s' : S) : Prop where mk ::
 out : ∃ (I : List (Nat × AO)) (args0 : List SV) (O : List (Nat × AO)) (x : SV) (g : Nat → Nat), PM C f I args0 O x ∧ LEL args (SV.renL g args0) ∧ (∀ κ, OLM (s.η (g κ)) ((lookO I κ).ren g)) ∧
  (∀ κ κ', ((lookO I κ).live || (lookO O κ).live) = true → ((lookO I κ').live || (lookO O κ').live) = true → g κ = g κ' → κ = κ') ∧
  (∀ κ, (lookO O κ).live = true → (lookO I κ).live = false → (s.η (g κ)).live = false ∧ g κ < 2000) ∧ (∀ κ, (lookO I κ).live = true → κ < 2000 → g κ < 2000) ∧ s' = mAfter s g I O d x ∧ movers g I = [] ∧ (!q || O.all fun y => Nat.ble 1000 (g y.1)) = true
theorem MCallVC0.weak {C : Cx} {q : Bool} {s : S} {f : FuncId} {args : List SV} {d : Nat} {s' : S} (h : MCallVC0 C q s f args d s') : MCallVC C s f args d s' := by
 obtain ⟨I, args0, O, x, g, h1, h2, h3, h4, h5, h6, h7, _⟩ := h
 exact ⟨I, args0, O, x, g, h1, h2, h3, h4, h5, h6, h7⟩
def isMut (own : Nat → Bool) (o : Oper) : Bool :=
 match o.op, o.dst with
 | .call c, some d => match c.callee with
  | .value _ => own (d + 100000)
  | _ => false
 | _, _ => false
def view (η : Nat → AO) : SV → SV
 | .slc κ => match η κ with
  | .row _ _ L => .p (.lst L)
  | _ => .slc κ
 | x => x
def PV.flat0 : PV → Bool
 | .int _ _ | .bool _ | .str _ | .nilS | .err | .exact _ | .lst [] => true
 | _ => false
def PV.flat : PV → Bool
 | .agg cs => cs.all PV.flat0
 | x => x.flat0
def Res.scalar : Res → Bool
 | .pv x => x.flat
 | .tup xs => xs.all PV.flat
 | _ => false
def noSlc : SV → Bool
 | .slc _ => false
 | _ => true
def AO.ro : AO → AO
 | .var _ t x => .var false t x
 | _ => .no
inductive Reach (η : Nat → AO) (l : List Nat) : Nat → Prop where
 | base {κ : Nat} : κ ∈ l → Reach η l κ
 | step {κ κ' : Nat} : Reach η l κ → κ' ∈ (η κ).keys → Reach η l κ'
structure CallVC (C : Cx) (η : Nat → AO) (f : FuncId) (args vargs : List SV) (r : Res) : Prop where mk ::
 out : ∃ (ηc : Nat → AO) (args' : List SV), LEL vargs args' ∧ PC C f ηc args' r ∧ (∀ κ, ηc κ = .no ∨ Reach η (SV.keysL args) κ ∧ ηc κ = (η κ).ro) ∧ (∀ κ ∈ SV.keysL args', (ηc κ).live = true) ∧
  (∀ κ κ', κ' ∈ (ηc κ).keys → (ηc κ').live = true) ∧ (r.scalar = true ∨ ∀ x ∈ args, noSlc x = true)
def Res.u (own : Bool) (d : Nat) : Res → U
 | .pv x => { x := .p x }
 | .fresh t sz L => cond own { x := .slc d, obj := some (.row t sz L) } { x := .p (.lst L) }
 | .tup xs => { x := .tupS (xs.map .p) }
def cut {α : Type} (L : List α) (lo hi : Nat) : List α := (L.drop lo).take (hi - lo)
def bnd (ev : Operand → SV) (dflt : Nat) : Option Operand → (Nat → Prop) → Prop
 | none, k => k dflt
 | some x, k => match ev x with
  | .p (.int _ n) => 0 ≤ n ∧ k n.toNat
  | _ => False
def okK (op : BinOp) (j j' : IntKind) : Bool :=
 match op with
 | .shl | .shr => true
 | _ => decide (j = j')
def intBin (op : BinOp) (k : IntKind) (a b : Int) (K : PV → Prop) : Prop :=
 match op with
 | .add => ∃ r, k.wrap (a + b) = r ∧ K (.int k r)
 | .sub => ∃ r, k.wrap (a - b) = r ∧ K (.int k r)
 | .mul => ∃ r, k.wrap (a * b) = r ∧ K (.int k r)
 | .eql => K (.bool (decide (a = b)))
 | .neq => K (.bool (decide (a ≠ b)))
 | .lss => K (.bool (decide (a < b)))
 | .leq => K (.bool (decide (a ≤ b)))
 | .gtr => K (.bool (decide (b < a)))
 | .geq => K (.bool (decide (b ≤ a)))
 | .quo => b ≠ 0 ∧ ∃ r, k.wrap (a.tdiv b) = r ∧ K (.int k r)
 | .rem => b ≠ 0 ∧ ∃ r, a.tmod b = r ∧ K (.int k r)
 | .shl => 0 ≤ b ∧ ∃ r, k.wrap (a * 2 ^ (min b.toNat k.bits)) = r ∧ K (.int k r)
 | .shr => 0 ≤ b ∧ ∃ r, a.fdiv (2 ^ (min b.toNat k.bits)) = r ∧ K (.int k r)
 | .and => ∃ r, k.wrap (BitVec.ofInt k.bits a &&& BitVec.ofInt k.bits b).toNat = r ∧ K (.int k r)
 | .or => ∃ r, k.wrap (BitVec.ofInt k.bits a ||| BitVec.ofInt k.bits b).toNat = r ∧ K (.int k r)
 | .xor => ∃ r, k.wrap (BitVec.ofInt k.bits a ^^^ BitVec.ofInt k.bits b).toNat = r ∧ K (.int k r)
 | _ => False
def strBin2 (op : BinOp) (a b : List UInt8) (K : PV → Prop) : Prop :=
 match op with
 | .leq => K (.bool (Op.bytesLess a b || decide (a = b)))
 | _ => False
def strBin (op : BinOp) (a b : List UInt8) (K : PV → Prop) : Prop :=
 match op with
 | .add => a.length + b.length ≤ 9223372036854775807 ∧ K (.str (a ++ b))
 | .eql => K (.bool (decide (a = b)))
 | .neq => K (.bool (decide (a ≠ b)))
 | .lss => K (.bool (Op.bytesLess a b))
 | op => strBin2 op a b K
def SV.isOne : SV → Bool
 | .p (.agg _) | .mix _ | .no | .tupS _ => false
 | _ => true
def fillS (flds : List (Nat × Nat)) : List SV → List (Nat × SV) → Option (List SV)
 | cs, [] => some cs
 | cs, (i, x) :: r => match flds[i]? with
  | some (off, 1) => cond (Nat.blt off cs.length && x.isOne) (fillS flds (cs.set off x) r) none
  | some (off, m) => match x.cells with
   | some xs => cond (Nat.beq xs.length m && Nat.ble (off + m) cs.length) (fillS flds (cs.take off ++ (xs ++ cs.drop (off + m))) r) none
   | none => none
  | none => none
def idxF (n : Nat) : List (Nat × Nat) := (List.range n).map fun i => (i, 1)
def toP1 : SV → Option PV
 | .p y => some y
 | .fn f [] => some (.exact (.func (.func f) #[] #[]))
 | _ => none
def partsS (ev : Operand → SV) : Nat → List (Nat × Operand) → Option (List SV)
 | _, [] => some []
 | n, (i, x) :: r => cond (Nat.beq i n) (match (ev x).shape with
  | some (false, 1) => (partsS ev (n + 1) r).map (ev x :: ·)
  | _ => none) none
def partsIn (ev : Operand → SV) : Nat → List (Nat × Operand) → Option (List PV)
 | _, [] => some []
 | n, (i, x) :: r => cond (Nat.beq i n) (match toP1 (ev x) with
  | some y => (partsIn ev (n + 1) r).map (y :: ·)
  | none => none) none
def allSz (sh : Bool × Nat) : List PV → Prop
 | [] => True
 | y :: ys => y.shape = sh ∧ allSz sh ys
def okPart (x : SV) : Prop :=
 match x with
 | .p (.agg _) => 0 = 0
 | .mix _ => 0 = 0
 | x => x.shape = some (false, 1)
def oneCells : List (Nat × SV) → Prop
 | [] => True
 | x :: xs => okPart x.2 ∧ oneCells xs
def optP {α : Type} (o : Option α) (k : α → Prop) : Prop :=
 match o with
 | some x => k x
 | none => False
theorem optP_eq {α : Type} {o : Option α} {k : α → Prop} (h : optP o k) : ∃ x, o = some x ∧ k x := by
 cases o with
 | none => exact h.elim
 | some x => exact ⟨x, rfl, h⟩
theorem optP_mk {α : Type} {o : Option α} {k : α → Prop} {x : α} (h : o = some x) (hk : k x) : optP o k := by rw [h]; exact hk
def ldVC (ti : TI) (t t' : Nat) (y : SV) (off : Nat) (k : SV → Prop) : Prop :=
 cond (Nat.beq t t' && Nat.beq off 0) (k y) (match y.cells with
  | none => False
  | some cs => cond ti.agg (off + ti.sz ≤ cs.length ∧ k (ofCells ((cs.drop off).take ti.sz))) (optP cs[off]? k))
def stC (y x : SV) (off : Nat) (cs xs : List SV) : SV :=
 match y, x with
 | .p (.agg l), .p (.int k n) => .p (.agg (l.set off (.int k n)))
 | _, _ => ofCells (cs.take off ++ (xs ++ cs.drop (off + xs.length)))
theorem allP_map : ∀ l : List PV, allP (l.map .p) = some l
 | [] => rfl
 | x :: l => by simp only [List.map_cons, allP, allP_map l, Option.map_some]
theorem stC_eq {y x : SV} {off : Nat} {cs xs : List SV} (hy : y.cells = some cs) (hx : x.cells = some xs) (hle : off + xs.length ≤ cs.length) : stC y x off cs xs = ofCells (cs.take off ++ (xs ++ cs.drop (off + xs.length))) := by
 unfold stC
 split
 ·rename_i l k n
  simp only [SV.cells, Option.some.injEq] at hy hx
  subst hy hx
  have h : (l.map SV.p).take off ++ ([SV.p (.int k n)] ++ (l.map SV.p).drop (off + [SV.p (.int k n)].length)) = (l.set off (.int k n)).map .p := by
   simp only [List.length_singleton, List.length_map] at hle
   rw [List.set_eq_take_append_cons_drop, if_pos (by omega)]
   simp
  rw [h]
  unfold ofCells
  rw [allP_map]
 ·rfl
def lstOf : SV → Option (List PV)
 | .p (.lst L) => some L
 | .p .nilS => some []
 | _ => none
def PV.force1 (x : PV) (k : PV → Prop) : Prop :=
 match x with
 | .int a n => k (.int a n)
 | .bool b => k (.bool b)
 | .str l => k (.str l)
 | .exact v => k (.exact v)
 | .nilS => k .nilS
 | .err => k .err
 | .agg cs => k (.agg cs)
 | .lst L => k (.lst L)
def PV.forceL : List PV → (List PV → Prop) → Prop
 | [], k => k []
 | x :: xs, k => x.force1 fun x => PV.forceL xs fun xs => k (x :: xs)
def PV.force (x : PV) (k : PV → Prop) : Prop :=
 match x with
 | .int a n => k (.int a n)
 | .bool b => k (.bool b)
 | .str l => k (.str l)
 | .exact v => k (.exact v)
 | .nilS => k .nilS
 | .err => k .err
 | .agg cs => PV.forceL cs fun cs => k (.agg cs)
 | .lst L => k (.lst L)
def SV.force1 (x : SV) (k : SV → Prop) : Prop :=
 match x with
 | .no => k .no
 | .p y => y.force fun y => k (.p y)
 | .elt y => y.force fun y => k (.elt y)
 | .eltF y f => y.force fun y => k (.eltF y f)
 | .rowE κ sz i => k (.rowE κ sz i)
 | .tl κ sz i => k (.tl κ sz i)
 | .ptr κ off => k (.ptr κ off)
 | .slc κ => k (.slc κ)
 | .fn f caps => k (.fn f caps)
 | .mix cs => k (.mix cs)
 | .tupS cs => k (.tupS cs)
 | .glob g => k (.glob g)
 | .nilQ L => k (.nilQ L)
def SV.forceL : List SV → (List SV → Prop) → Prop
 | [], k => k []
 | x :: xs, k => x.force1 fun x => SV.forceL xs fun xs => k (x :: xs)
def SV.force (x : SV) (k : SV → Prop) : Prop :=
 match x with
 | .no => k .no
 | .p y => y.force fun y => k (.p y)
 | .elt y => y.force fun y => k (.elt y)
 | .eltF y f => y.force fun y => k (.eltF y f)
 | .rowE κ sz i => k (.rowE κ sz i)
 | .tl κ sz i => k (.tl κ sz i)
 | .ptr κ off => k (.ptr κ off)
 | .slc κ => k (.slc κ)
 | .fn f caps => SV.forceL caps fun caps => k (.fn f caps)
 | .mix cs => SV.forceL cs fun cs => k (.mix cs)
 | .tupS cs => SV.forceL cs fun cs => k (.tupS cs)
 | .glob g => k (.glob g)
 | .nilQ L => k (.nilQ L)
def AO.force (o : AO) (k : AO → Prop) : Prop :=
 match o with
 | .no => k .no
 | .var own t x => x.force fun x => k (.var own t x)
 | .row t sz L => k (.row t sz L)
 | .mp t sk L => k (.mp t sk L)
 | .fm t ks xs => SV.forceL xs fun xs => k (.fm t ks xs)
 | .rp t xs => SV.forceL xs fun xs => k (.rp t xs)
 | .ms t sk L B c m => k (.ms t sk L B c m)
 | .mi κ m since seen last => k (.mi κ m since seen last)
 | .it l pos => k (.it l pos)
def U.force (u : U) (k : U → Prop) : Prop :=
 match u with
 | ⟨x, obj, st, kill⟩ => x.force fun x => match obj, st with
  | none, none => k ⟨x, none, none, kill⟩
  | some o, none => o.force fun o => k ⟨x, some o, none, kill⟩
  | none, some (κ, o) => o.force fun o => k ⟨x, none, some (κ, o), kill⟩
  | some o, some z => k ⟨x, some o, some z, kill⟩
def S.force (s : S) (k : S → Prop) : Prop :=
 match s with
 | ⟨ρ, η⟩ => k ⟨ρ, η⟩
theorem PV.force1_eq (x : PV) (k : PV → Prop) : x.force1 k = k x := by cases x <;> rfl
theorem PV.forceL_eq : ∀ (x : List PV) (k : List PV → Prop), PV.forceL x k = k x
 | [], k => rfl
 | x :: xs, k => by simp only [PV.forceL, PV.force1_eq, PV.forceL_eq xs]
theorem PV.force_eq (x : PV) (k : PV → Prop) : x.force k = k x := by cases x <;> simp only [PV.force, PV.forceL_eq]
theorem SV.force1_eq (x : SV) (k : SV → Prop) : x.force1 k = k x := by cases x <;> simp only [SV.force1, PV.force_eq]
theorem SV.forceL_eq : ∀ (x : List SV) (k : List SV → Prop), SV.forceL x k = k x
 | [], k => rfl
 | x :: xs, k => by simp only [SV.forceL, SV.force1_eq, SV.forceL_eq xs]
theorem SV.force_eq (x : SV) (k : SV → Prop) : x.force k = k x := by cases x <;> simp only [SV.force, PV.force_eq, SV.forceL_eq]
theorem AO.force_eq (x : AO) (k : AO → Prop) : x.force k = k x := by cases x <;> simp only [AO.force, SV.force_eq, SV.forceL_eq]
theorem U.force_eq (u : U) (k : U → Prop) : u.force k = k u := by
 obtain ⟨x, obj, st, kill⟩ := u
 simp only [U.force]
 rw [SV.force_eq]
 cases obj <;> cases st <;> simp only [AO.force_eq]
theorem S.force_eq (s : S) (k : S → Prop) : s.force k = k s := rfl
def bytesL (l : List UInt8) : List PV := l.map fun c => .int .u8 c.toNat
def isU8 : Option TI → Bool
 | some te => match te.zero with
  | .int .u8 _ => Nat.beq te.k 5
  | _ => false
 | none => false
def ownNil (own : Nat → Bool) : Option Nat → SV → Bool
 | some d, .p .nilS => own d
 | _, _ => false
def rpOf (η : Nat → AO) (t : Nat) : SV → Option (List Nat × List SV)
 | .p .nilS => some ([], [])
 | .slc κ => match η κ with
  | .rp e xs => cond (Nat.beq e t) (some ([κ], xs)) none
  | _ => none
 | _ => none
def fldM (x : SV) (off m : Nat) : Option SV :=
 match x with
 | .p (.agg cs) => cond (Nat.ble (off + m) cs.length) (some (.p (.agg ((cs.drop off).take m)))) none
 | .mix cs => cond (Nat.ble (off + m) cs.length) (some (ofCells ((cs.drop off).take m))) none
 | _ => none
def PV.parts : PV → List PV
 | .agg cs => cs
 | x => [x]
def mvVC (C : Cx) (own : Nat → Bool) (dst : Option Nat) (t : Nat) (η : Nat → AO) (x : SV) (k : U → Prop) : Prop :=
 cond (ownNil own dst x) (match dst, C.T t with
  | some d, some ti => match η d, C.T ti.elem with
   | .no, some te => 0 < te.sz ∧ k { x := .slc d, obj := some (.row ti.elem te.sz []) }
   | _, _ => False
  | _, _ => False) (k { x := x })
def asFn : SV → SV
 | .p (.exact v) => match v with
  | .func (.func f) a b => cond (Nat.beq a.size 0 && Nat.beq b.size 0) (.fn f []) (.p (.exact (.func (.func f) a b)))
  | v => .p (.exact v)
 | x => x
def mkOf : SV → Option MK
 | .p (.str l) => some (.s l)
 | .p (.int .i64 n) => some (.n n)
 | _ => none
def mget (key : MK) : List (MK × PV) → Option PV
 | [] => none
 | (k, v) :: r => if key = k then some v else mget key r
def mfind (key : MK) : List (MK × PV) → Option Nat
 | [] => none
 | (k, _) :: r => if key = k then some 0 else (mfind key r).map (· + 1)
def mdel {α : Type} (key : MK) (L : List (MK × PV)) (B : List α) : List α :=
 match mfind key L with
 | some j => B.eraseIdx j
 | none => B
def mput (key : MK) (v : PV) : List (MK × PV) → List (MK × PV)
 | [] => [(key, v)]
 | (k, x) :: r => if key = k then (key, v) :: r else (k, x) :: mput key v r
def toPL : List SV → Option (List PV)
 | [] => some []
 | x :: r => match toP1 x, toPL r with
  | some y, some l => some (y :: l)
  | _, _ => none
def toP : SV → Option PV
 | .mix cs => (toPL cs).map .agg
 | x => toP1 x
def fget (key : MK) : List MK → List SV → Option SV
 | k :: ks, x :: xs => if key = k then some x else fget key ks xs
 | _, _ => none
def takeB (own : Nat → Bool) : Option Nat → Bool
 | some d => own (d + 500000)
 | none => false
def tkVC (C : Cx) (dst : Option Nat) (t : Nat) (x : SV) (ev : Operand → SV) (lo hi mx : Option Operand) (η : Nat → AO) (k : U → Prop) : Prop :=
 match dst, C.T t, x with
 | some _, some ti, .slc κ => match η κ, C.T ti.elem with
  | .row e sz L, some te => ti.k = 2 ∧ te.sz = sz ∧ mx.isNone = true ∧ 0 < L.length ∧ (match lo, hi with
   | some lo, none => bnd ev 0 (some lo) fun lo => lo < L.length ∧ k { x := .tl κ sz lo }
   | none, some hi => bnd ev 0 (some hi) fun hi => hi ≤ L.length ∧ Nat.blt κ 2000 = true ∧ k { x := .slc κ, st := some (κ, .row e sz (L.take hi)), kill := some κ }
   | _, _ => False)
  | _, _ => False
 | _, _, _ => False
def nilCmp (x y : SV) : Option (Nat × Bool) :=
 match y with
 | .p (.exact .nilFunc) => match x with
  | .p (.exact .nilFunc) => some (10, true)
  | .fn _ _ => some (10, false)
  | _ => none
 | .p (.exact (.pointer none)) => match x with
  | .p (.exact (.pointer none)) => some (9, true)
  | .ptr _ _ => some (9, false)
  | .rowE _ _ _ => some (9, false)
  | _ => none
 | .p (.exact .nilIface) => match x with
  | .p (.exact .nilIface) => some (11, true)
  | .p .err => some (11, false)
  | _ => none
 | _ => none
def isConst : Operand → Bool
 | .const _ => true
 | _ => false
def cxOf : SV → Option (FloatKind × Nat × Nat)
 | .p (.exact (.complex k a b)) => some (k, a, b)
 | _ => none
def cxVC (op : BinOp) (x y : SV) (k : U → Prop) : Prop :=
 match cxOf x, cxOf y with
 | some (j, a, b), some (j', c, d) => j = j' ∧ ∃ r, (∀ (P : Program) (w : World), (Op.complexOp op j a b c d).run P w = .ok (.bool r) w) ∧ k { x := .p (.bool r) }
 | _, _ => False
def nilVC (C : Cx) (t : Nat) (op : BinOp) (lit : Bool) (x y : SV) (k : U → Prop) : Prop :=
 match nilCmp x y with
 | none => cxVC op x y k
 | some (kk, b) => match C.T t with
  | some ti => lit = true ∧ ti.k = kk ∧ match op with
   | .eql => k { x := .p (.bool b) }
   | .neq => k { x := .p (.bool (!b)) }
   | _ => False
  | none => False
def rrVC (C : Cx) (d : Nat) (ti : TI) (x y : SV) (η : Nat → AO) (k : U → Prop) : Prop :=
 match C.T ti.elem, y with
 | some te, .slc q => match η q with
  | .row _ sz' M => ti.k = 2 ∧ 0 < te.sz ∧ 0 < te.bytes ∧ sz' = te.sz ∧ (match x with
   | .p .nilS => (match η d with
    | .no => M.length * te.bytes ≤ 140737488355328 ∧ k { x := .slc d, obj := some (.row ti.elem te.sz M) }
    | _ => False)
   | .slc κ => (match η κ with
    | .row e sz L => Nat.blt κ 2000 = true ∧ e = ti.elem ∧ sz = te.sz ∧ (L.length + M.length) * te.bytes ≤ 140737488355328 ∧ k { x := .slc κ, st := some (κ, .row e sz (L ++ M)), kill := some κ }
    | _ => False)
   | _ => False)
  | _ => False
 | _, _ => False
def cpB (own : Nat → Bool) : Option Nat → Bool
 | some d => own (d + 600000)
 | none => false
def cpVC (C : Cx) (ev : Operand → SV) (args : List Operand) (tys : List Nat) (η : Nat → AO) (k : U → Prop) : Prop :=
 match args, tys with
 | [x, y], [t, _] => match C.T t, ev x, ev y with
  | some ti, .slc κ, .slc q => match η κ, η q, C.T ti.elem with
   | .row e sz L, .row _ sz' M, some te => ti.k = 2 ∧ e = ti.elem ∧ sz = te.sz ∧ sz' = te.sz ∧ L.length = M.length ∧ M.length * te.sz ≤ 16777216 ∧ k { x := .p (.int .i64 M.length), st := some (κ, .row e sz M) }
   | _, _, _ => False
  | _, _, _ => False
 | _, _ => False
def VC (C : Cx) (own : Nat → Bool) (o : Oper) (ev : Operand → SV) (η : Nat → AO) (k : U → Prop) : Prop :=
 match o.op with
 | .move x => mvVC C own o.dst o.type η (ev x) k
 | .assign x => mvVC C own o.dst o.type η (ev x) k
 | .pick c a b => match ev c with
  | .p (.bool t) => Bool.rec (motive := fun _ => Prop) (k { x := ev b }) (k { x := ev a }) t
  | _ => False
 | .alloc t => match o.dst, C.T t with
  | some d, some ti => match η d with
   | .no => k { x := .ptr d 0, obj := some (.var true t (.p ti.zero)) }
   | _ => False
  | _, _ => False
 | .box t x => match o.dst, C.T t with
  | some d, some ti => match η d with
   | .no => (ev x).shape = some (ti.agg, ti.sz) ∧ k { x := .ptr d 0, obj := some (.var true t (ev x)) }
   | _ => False
  | _, _ => False
 | .load t x => match C.T t with
  | none => False
  | some ti => match ev x with
   | .ptr κ off => match η κ with
    | .var _ t' y => ldVC ti t t' y off fun z => k { x := z }
    | _ => False
   | .elt y => y.shape = (ti.agg, ti.sz) ∧ k { x := .p y }
   | .eltF y f => match y with
    | .agg cs => cond ti.agg (f + ti.sz ≤ cs.length ∧ k { x := .p (.agg ((cs.drop f).take ti.sz)) }) (match cs[f]? with
     | some z => k { x := .p z }
     | none => False)
    | _ => False
   | .rowE κ sz i => match η κ with
    | .row _ sz' L => cond (Nat.beq sz sz') (∃ y, L[i]? = some y ∧ sz = sz' ∧ sz = ti.sz ∧ y.shape = (ti.agg, ti.sz) ∧ k { x := .p y })
      (sz = 1 ∧ ∃ j f cs, i = j * sz' + f ∧ L[j]? = some (.agg cs) ∧ cs.length = sz' ∧ f + ti.sz ≤ sz' ∧ cond ti.agg (k { x := .p (.agg ((cs.drop f).take ti.sz)) }) (optP cs[f]? fun z => k { x := .p z }))
    | .rp _ xs => sz = 1 ∧ ti.agg = false ∧ optP xs[i]? fun z => k { x := z }
    | _ => False
   | _ => False
 | .store t a x => match o.dst, C.T t with
  | none, some ti => match ev a with
   | .ptr κ off => match η κ with
    | .var true t' y => (ev x).shape = some (ti.agg, ti.sz) ∧
      cond (Nat.beq t t' && Nat.beq off 0) (k { x := .no, st := some (κ, .var true t' (ev x)) }) (match y.cells, (ev x).cells with
       | some cs, some xs => off + xs.length ≤ cs.length ∧ (∃ ti', C.T t' = some ti' ∧ ti'.agg = true) ∧ k { x := .no, st := some (κ, .var true t' (stC y (ev x) off cs xs)) }
       | _, _ => False)
    | _ => False
   | .rowE κ sz i => match η κ, ev x with
    | .row t' sz' L, .p y => cond (Nat.beq sz sz') (i < L.length ∧ sz = sz' ∧ sz = ti.sz ∧ y.shape = (ti.agg, ti.sz) ∧ k { x := .no, st := some (κ, .row t' sz' (L.set i y)) })
      (sz = 1 ∧ ∃ j f cs, i = j * sz' + f ∧ L[j]? = some (.agg cs) ∧ cs.length = sz' ∧ y.shape = (ti.agg, ti.sz) ∧ f + ti.sz ≤ sz' ∧ k { x := .no, st := some (κ, .row t' sz' (L.set j (.agg (cs.take f ++ (y.parts ++ cs.drop (f + ti.sz)))))) })
    | _, _ => False
   | _ => False
  | _, _ => False
 | .nilCheck x => match ev x with
  | .ptr κ off => k { x := .ptr κ off }
  | .rowE κ sz i => k { x := .rowE κ sz i }
  | _ => False
 | .binOp op t x y _ => match ev x, ev y with
  | .p (.int j a), .p (.int j' b) => okK op j j' = true ∧ intBin op j a b fun r => k { x := .p r }
  | .p (.str a), .p (.str b) => strBin op a b fun r => k { x := .p r }
  | .p (.bool a), .p (.bool b) => match C.T t, op with
   | some ti, .eql => ti.k = 6 ∧ k { x := .p (.bool (a == b)) }
   | some ti, .neq => ti.k = 6 ∧ k { x := .p (.bool (!(a == b))) }
   | _, _ => False
  | .p (.lst L), .p .nilS => match C.T t, op with
   | some ti, .eql => ti.k = 2 ∧ k { x := .nilQ L }
   | _, _ => False
  | u, v => nilVC C t op (isConst y) u v k
 | .unOp op _ x => match op, ev x with
  | .not, .p (.bool b) => k { x := .p (.bool (!b)) }
  | .neg, .p (.int j a) => ∃ r, j.wrap (0 - a) = r ∧ k { x := .p (.int j r) }
  | .xor, .p (.int j a) => intBin .xor j (if j.signed then -1 else j.max) a fun r => k { x := .p r }
  | _, _ => False
 | .convert t t' x => match C.T t, C.T t' with
  | some ti, some ti' => match ev x with
   | .p (.int _ n) => match ti'.zero with
    | .int j _ => ti'.k = 5 ∧ ∃ r, j.wrap n = r ∧ k { x := .p (.int j r) }
    | .str _ => ti'.k = 4 ∧ ∃ l, Utf8.encode n = ⟨l.toArray⟩ ∧ k { x := .p (.str l) }
    | _ => False
   | .p (.lst L) => ti.k = 2 ∧ ti'.k = 4 ∧ isU8 (C.T ti.elem) = true ∧ ∃ l : List UInt8, L = bytesL l ∧ k { x := .p (.str l) }
   | .slc κ => match η κ with
    | .row e sz L => t = t' ∧ ti.k = 2 ∧ e = ti.elem ∧ isU8 (C.T ti.elem) = true ∧ 0 < L.length ∧ k { x := .p (.lst L), kill := some κ }
    | _ => False
   | _ => False
  | _, _ => False
 | .makeFunc f first caps => match f, first.toList with
  | .func f, [] => k { x := .fn f (caps.toList.map ev) }
  | _, _ => False
 | .fieldAddr t x f => match C.T t with
  | none => False
  | some ti => match ti.flds[f]? with
   | some (off, n + 1) => ti.k = 1 ∧ match ev x with
    | .ptr κ o => k { x := .ptr κ (o + off) }
    | .elt y => k { x := .eltF y off }
    | .eltF y o => k { x := .eltF y (o + off) }
    | .rowE κ sz i => k { x := .rowE κ 1 (i * sz + off) }
    | _ => False
   | _ => False
 | .indexAddr t x ix => match C.T t, ev ix with
  | some ti, .p (.int _ n) => match C.T ti.elem with
   | none => False
   | some te => match ev x with
    | .p (.lst L) => 0 ≤ n ∧ ∃ y, L[n.toNat]? = some y ∧ ti.k = 2 ∧ y.shape = (te.agg, te.sz) ∧ k { x := .elt y }
    | .glob g => match C.tab g with
     | some L => 0 ≤ n ∧ ∃ y, L[n.toNat]? = some y ∧ ti.k = 3 ∧ ti.alen = L.length ∧ y.shape = (te.agg, te.sz) ∧ k { x := .elt y }
     | none => False
    | .slc κ => match η κ with
     | .row _ sz L => 0 ≤ n ∧ n.toNat < L.length ∧ ti.k = 2 ∧ sz = te.sz ∧ k { x := .rowE κ sz n.toNat }
     | .rp _ xs => 0 ≤ n ∧ n.toNat < xs.length ∧ ti.k = 2 ∧ te.sz = 1 ∧ k { x := .rowE κ 1 n.toNat }
     | _ => False
    | .ptr κ off => 0 ≤ n ∧ ti.k = 3 ∧ n.toNat < ti.alen ∧ k { x := .ptr κ (off + n.toNat * te.sz) }
    | _ => False
  | _, _ => False
 | .field t x f => match C.T t with
  | none => False
  | some ti => match ti.flds[f]? with
   | some (off, 1) => ti.k = 1 ∧ match ev x with
    | .p (.agg cs) => match cs[off]? with
     | some z => k { x := .p z }
     | none => False
    | .mix cs => match cs[off]? with
     | some z => k { x := z }
     | none => False
    | _ => False
   | some (off, m) => ti.k = 1 ∧ Nat.ble 2 m = true ∧ optP (fldM (ev x) off m) fun z => k { x := z }
   | _ => False
 | .index t x ix => match C.T t, ev x, ev ix with
  | some ti, .p (.str l), .p (.int _ n) => ti.k = 4 ∧ 0 ≤ n ∧ ∃ c, l[n.toNat]? = some c ∧ k { x := .p (.int .u8 c.toNat) }
  | some ti, .p (.agg cs), .p (.int _ n) => ti.k = 3 ∧ 0 ≤ n ∧ n.toNat < ti.alen ∧ (∃ te, C.T ti.elem = some te ∧ te.agg = false ∧ te.sz = 1) ∧ optP cs[n.toNat]? fun y => k { x := .p y }
  | _, _, _ => False
 | .slice t x lo hi mx => cond (takeB own o.dst) (tkVC C o.dst t (ev x) ev lo hi mx η k) <| match C.T t, ev x with
  | some ti, .p (.lst L) => ti.k = 2 ∧ (mx.isNone || hi.isSome) = true ∧ (∃ te, C.T ti.elem = some te ∧ allSz (te.agg, te.sz) L) ∧ bnd ev 0 lo fun lo => bnd ev L.length hi fun hi => bnd ev L.length mx fun mx => lo ≤ hi ∧ hi ≤ mx ∧ mx ≤ L.length ∧ k { x := .p (.lst (cut L lo hi)) }
  | some ti, .p (.str l) => ti.k = 4 ∧ mx.isNone = true ∧ bnd ev 0 lo fun lo => bnd ev l.length hi fun hi => lo ≤ hi ∧ hi ≤ l.length ∧ k { x := .p (.str (cut l lo hi)) }
  | some ti, .elt (.agg cs) => ti.k = 3 ∧ ti.alen = cs.length ∧ ti.alen ≤ 1000000 ∧ (lo.isNone && hi.isNone && mx.isNone) = true ∧ (∃ te, C.T ti.elem = some te ∧ te.agg = false ∧ te.sz = 1) ∧ k { x := .p (.lst cs) }
  | _, _ => False
 | .makeSlice t n m => match o.dst, C.T t with
  | some d, some ti => match ev n, ev m, C.T ti.elem, η d with
   | .p (.int _ n), .p (.int _ m), some te, .no => n = m ∧ 0 ≤ n ∧ ti.k = 2 ∧ 0 < te.sz ∧ n.toNat * te.sz ≤ 16777216 ∧ te.bytes * n.toNat ≤ 16777216 ∧ (te.zero.shape = (te.agg, te.sz)) ∧ k { x := .slc d, obj := some (.row ti.elem te.sz (List.replicate n.toNat te.zero)) }
   | _, _, _, _ => False
  | _, _ => False
 | .range t x => match o.dst, C.T t, ev x with
  | some d, some ti, .p (.str l) => match η d with
   | .no => ti.k = 4 ∧ k { x := .ptr d 0, obj := some (.it l 0) }
   | _ => False
  | some d, some ti, .slc κ => match η κ, η d with
   | .mp t' sk L, .no => t' = t ∧ (Nat.beq ti.k 7 || Nat.beq ti.k 8) = true ∧ ∀ (m : Nat) (B : List Nat) (c : Nat), B.length = L.length → B.Nodup → (∀ b ∈ B, b < c) → k { x := .ptr d 0, obj := some (.mi κ m c [] c), st := some (κ, .ms t' sk L B c m) }
   | _, _ => False
  | _, _, _ => False
 | .next x str => match str, ev x with
  | true, .ptr κ 0 => match η κ with
   | .it l pos => ∃ b, decide (pos < l.length) = b ∧ Bool.rec (motive := fun _ => Prop) (k { x := .tupS [.p (.bool false)] })
     (∃ c wd, Utf8.decode ⟨l.toArray⟩ pos = (c, wd) ∧ k { x := .tupS [.p (.bool true), .p (.int .i64 pos), .p (.int .i32 c)], st := some (κ, .it l (pos + wd)) }) b
   | _ => False
  | false, .ptr κ 0 => match η κ with
   | .mi κm m since seen last => match η κm with
    | .ms t sk L B c m' => m' = m ∧ B.Nodup ∧ (∀ b ∈ B, b < since) ∧ since ≤ last ∧ since ≤ c ∧
      ((∀ b ∈ B, seen.contains b = true) → k { x := .tupS [.p (.bool false)], st := some (κm, .mp t sk L) }) ∧
      ∀ (i : Nat) (key : MK) (v : PV) (b : Nat), L[i]? = some (key, v) → B[i]? = some b → seen.contains b = false → k { x := .tupS [.p (.bool true), .p key.pv, .p v], st := some (κ, .mi κm m since (seen ++ [b]) c) }
    | _ => False
   | _ => False
  | _, _ => False
 | .entry x => match ev x with
  | .ptr κ 0 => match η κ with
   | .mi κm m since seen last => match η κm with
    | .ms t sk L B c m' => m' = m ∧ last = c ∧ B.Nodup ∧ ∃ (q : List Nat) (i : Nat) (key : MK) (v : PV) (b : Nat), seen = q ++ [b] ∧ L[i]? = some (key, v) ∧ B[i]? = some b ∧ k { x := .tupS [.p key.pv, .p v] }
    | _ => False
   | _ => False
  | _ => False
 | .makeMap t r => match r, o.dst, C.T t with
  | none, some d, some ti => match η d with
   | .no => (Nat.beq ti.k 7 || Nat.beq ti.k 8) = true ∧ cond (own (d + 300000)) (k { x := .slc d, obj := some (.fm t [] []) }) (k { x := .slc d, obj := some (.mp t (Nat.beq ti.k 7) []) })
   | _ => False
  | _, _, _ => False
 | .lookup t x ix cm => match C.T t, ev x with
  | some ti, .slc κ => match η κ, mkOf (ev ix), C.T ti.elem with
   | .mp t' sk L, some key, some te => t' = t ∧ key.isS = sk ∧ sk = Nat.beq ti.k 7 ∧ (Nat.beq ti.k 7 || Nat.beq ti.k 8) = true ∧ ∃ r, mget key L = r ∧ (match r with
    | none => k { x := cond cm (.tupS [.p te.zero, .p (.bool false)]) (.p te.zero) }
    | some v => k { x := cond cm (.tupS [.p v, .p (.bool true)]) (.p v) })
   | .fm t' ks xs, some key, some te => t' = t ∧ key.isS = false ∧ ti.k = 8 ∧ cm = false ∧ ∃ r, fget key ks xs = r ∧ (match r with
    | none => k { x := .p te.zero }
    | some v => k { x := v })
   | _, _, _ => False
  | _, _ => False
 | .mapUpdate t m ix x => match o.dst, C.T t, ev m with
  | none, some ti, .slc κ => match η κ, mkOf (ev ix), toP (ev x) with
   | .mp t' sk L, some key, some v => t' = t ∧ key.isS = sk ∧ sk = Nat.beq ti.k 7 ∧ (Nat.beq ti.k 7 || Nat.beq ti.k 8) = true ∧ k { x := .no, st := some (κ, .mp t' sk (mput key v L)) }
   | _, _, _ => False
  | _, _, _ => False
 | .insert t m ix x => match o.dst, C.T t, ev m with
  | none, some ti, .slc κ => match η κ, mkOf (ev ix), toP (ev x) with
   | .mp t' sk L, some key, some v => t' = t ∧ key.isS = sk ∧ sk = Nat.beq ti.k 7 ∧ (Nat.beq ti.k 7 || Nat.beq ti.k 8) = true ∧ k { x := .no, st := some (κ, .mp t' sk (mput key v L)) }
   | .fm t' ks xs, some key, _ => t' = t ∧ key.isS = false ∧ ti.k = 8 ∧ ks.contains key = false ∧ k { x := .no, st := some (κ, .fm t' (ks ++ [key]) (xs ++ [ev x])) }
   | _, _, _ => False
  | _, _, _ => False
 | .extract x i => match ev x with
  | .tupS cs => match cs[i]? with
   | some y => k { x := y }
   | none => False
  | _ => False
 | .build t parts => match C.T t with
  | none => False
  | some ti => cond (Nat.beq ti.k 3) ((∃ te, C.T ti.elem = some te ∧ te.sz = 1) ∧ oneCells (parts.toList.map fun x => (x.1, ev x.2)) ∧ optP (SV.p ti.zero).cells fun cs => optP (fillS (idxF ti.alen) cs (parts.toList.map fun x => (x.1, ev x.2))) fun cs => k { x := ofCells cs })
   (ti.k = 1 ∧ oneCells (parts.toList.map fun x => (x.1, ev x.2)) ∧ match (SV.p ti.zero).cells with
   | some cs => match fillS ti.flds cs (parts.toList.map fun x => (x.1, ev x.2)) with
    | some cs => k { x := ofCells cs }
    | none => False
   | none => False)
 | .buildSlice t n parts => match o.dst, C.T t with
  | some d, some ti => cond (own (d + 400000)) (match C.T ti.elem, partsS ev 0 parts.toList, η d with
   | some te, some xs, .no => ti.k = 2 ∧ n = xs.length ∧ n ≤ 16777216 ∧ te.sz = 1 ∧ SV.forceL xs fun xs => k { x := .slc d, obj := some (.rp ti.elem xs) }
   | _, _, _ => False) <| match C.T ti.elem, partsIn ev 0 parts.toList with
   | some te, some L => ti.k = 2 ∧ n = L.length ∧ n * te.sz ≤ 16777216 ∧ 0 < te.sz ∧ allSz (te.agg, te.sz) L ∧ PV.forceL L fun L => cond (own d)
     (match η d with | .no => k { x := .slc d, obj := some (.row ti.elem te.sz L) } | _ => False) (k { x := .p (.lst L) })
   | _, _ => False
  | _, _ => False
 | .call c => match c.callee with
  | .value f => match o.dst with
   | none => False
   | some d => match asFn (ev f) with
    | .fn f caps => SV.forceL (c.args.toList.map ev ++ caps) fun args => SV.forceL (args.map (view η)) fun vargs => ∃ r, CallVC C η f args vargs r ∧ (match η d with | .no => k (r.u (own d) d) | _ => False)
    | _ => False
  | .builtin .len => match c.args.toList, (c.argTypes[0]?).bind C.T with
   | [x], some ti => match ev x with
    | .p (.lst L) => ti.k = 2 ∧ k { x := .p (.int .i64 L.length) }
    | .p .nilS => ti.k = 2 ∧ k { x := .p (.int .i64 0) }
    | .p (.str l) => ti.k = 4 ∧ k { x := .p (.int .i64 l.length) }
    | .slc κ => match η κ with
     | .row _ _ L => ti.k = 2 ∧ k { x := .p (.int .i64 L.length) }
     | .rp _ xs => ti.k = 2 ∧ k { x := .p (.int .i64 xs.length) }
     | .mp _ _ L => (Nat.beq ti.k 7 || Nat.beq ti.k 8) = true ∧ k { x := .p (.int .i64 L.length) }
     | _ => False
    | _ => False
   | _, _ => False
  | .builtin .append => match o.dst, c.args.toList, c.argTypes.toList with
   | some d, [x, y], [t, t'] => cond (Nat.beq t t') (match C.T t with
    | some ti => cond (own (d + 400000)) (cond (own (d + 600000)) (rrVC C d ti (ev x) (ev y) η k) <| match C.T ti.elem, rpOf η ti.elem (ev x), ev y, η d with
     | some te, some (kl, xs), .slc q, .no => match η q with
      | .rp e ys => ti.k = 2 ∧ te.sz = 1 ∧ 0 < te.bytes ∧ e = ti.elem ∧ 0 < ys.length ∧ kl.all (fun κ => !SV.menL κ (xs ++ ys)) = true ∧ (xs.length + ys.length) * te.bytes ≤ 140737488355328 ∧ SV.forceL (xs ++ ys) fun xs => k { x := .slc d, obj := some (.rp ti.elem xs), kill := kl.head? }
      | _ => False
     | _, _, _, _ => False) <| match C.T ti.elem, lstOf (ev y) with
     | some te, some M => ti.k = 2 ∧ 0 < te.sz ∧ 0 < te.bytes ∧ allSz (te.agg, te.sz) M ∧
       (match ev x with
        | .p .nilS => match η d with
         | .no => M.length * te.bytes ≤ 140737488355328 ∧ cond (own d) (k { x := .slc d, obj := some (.row ti.elem te.sz M) }) (k { x := .p (.lst M) })
         | _ => False
        | .slc κ => match η κ with
         | .row e sz L => Nat.blt κ 2000 = true ∧ e = ti.elem ∧ sz = te.sz ∧ (L.length + M.length) * te.bytes ≤ 140737488355328 ∧
           cond (own (d + 200000)) (own d = true ∧ match η d with | .no => k { x := .slc d, obj := some (.row e sz (L ++ M)), kill := some κ } | _ => False) (cond (own d) (k { x := .slc κ, st := some (κ, .row e sz (L ++ M)), kill := some κ }) (k { x := .p (.lst (L ++ M)), kill := some κ }))
         | _ => False
        | _ => False)
     | _, _ => False
    | _ => False) False
   | _, _, _ => False
  | .builtin .copy => cond (cpB own o.dst) (cpVC C ev c.args.toList c.argTypes.toList η k) <| match c.args.toList, c.argTypes.toList with
   | [x, y], [t, _] => match C.T t, ev x, lstOf (ev y) with
    | some ti, .slc κ, some M => match η κ, C.T ti.elem with
     | .row e sz L, some te => ti.k = 2 ∧ e = ti.elem ∧ sz = 1 ∧ te.sz = 1 ∧ te.agg = false ∧ allSz (te.agg, te.sz) M ∧ 0 < M.length ∧ M.length ≤ L.length ∧ k { x := .p (.int .i64 M.length), st := some (κ, .row e sz (M ++ L.drop M.length)) }
     | _, _ => False
    | _, _, _ => False
   | _, _ => False
  | .builtin .max => match c.args.toList with
   | [x, y] => match ev x, ev y with
    | .p (.int .i64 a), .p (.int .i64 b) => k { x := .p (.int .i64 (max a b)) }
    | _, _ => False
   | [x, y, z] => match ev x, ev y, ev z with
    | .p (.int .i64 a), .p (.int .i64 b), .p (.int .i64 c) => k { x := .p (.int .i64 (max (max a b) c)) }
    | _, _, _ => False
   | _ => False
  | .builtin .clear => match o.dst, c.args.toList, c.argTypes.toList with
   | none, [x], [t] => match C.T t, ev x with
    | some ti, .slc κ => match η κ with
     | .mp t' sk L => t' = t ∧ k { x := .no, st := some (κ, .mp t' sk []) }
     | _ => False
    | some ti, .tl κ sz i => match η κ, C.T ti.elem with
     | .row e sz' L, some te => ti.k = 2 ∧ e = ti.elem ∧ sz = 1 ∧ sz' = 1 ∧ te.sz = 1 ∧ te.agg = false ∧ i < L.length ∧ k { x := .no, st := some (κ, .row e sz' (L.take i ++ List.replicate (L.length - i) te.zero)) }
     | _, _ => False
    | _, _ => False
   | _, _, _ => False
  | .builtin .delete => match o.dst, c.args.toList, c.argTypes[0]? with
   | none, [x, y], some t => match C.T t, ev x, mkOf (ev y) with
    | some ti, .slc κ, some key => match η κ with
     | .ms t' sk L B cl m => t' = t ∧ key.isS = sk ∧ sk = Nat.beq ti.k 7 ∧ (Nat.beq ti.k 7 || Nat.beq ti.k 8) = true ∧ k { x := .no, st := some (κ, .ms t' sk (mdel key L L) (mdel key L B) cl m) }
     | _ => False
    | _, _, _ => False
   | _, _, _ => False
  | .builtin .min => match c.args.toList with
   | [x, y] => match ev x, ev y with
    | .p (.int .i64 a), .p (.int .i64 b) => k { x := .p (.int .i64 (min a b)) }
    | _, _ => False
   | _ => False
  | _ => False
 | _ => False
end Go.Vc
namespace Go.Vc
open Go Go.RowKit
inductive Tr where
 | fin
 | one (i : Nat) (t : Tr)
 | alt (a b : Tr)
 | keep (ts os : List Nat) (t : Tr)
 | pin (i : Nat) (t : Tr)
def Tr.heads : Tr → List Nat
 | .fin => []
 | .one i _ => [i]
 | .alt a b => a.heads ++ b.heads
 | .keep _ _ t => t.heads
 | .pin i _ => [i]
def Tr.isOne : Tr → Option Nat
 | .one i _ => some i
 | _ => none
structure Cfg where
 own : Nat → Bool := fun _ => false
 fz : Nat → List Nat := fun _ => []
 ps : Nat → List Nat := fun _ => []
 kp : Nat → Option (List Nat × List Nat) := fun _ => none
 tr : Nat → Option (List Nat × Tr) := fun _ => none
 nl : Nat → List (Nat × Nat × Nat × Nat × Nat) := fun _ => []
def slcTo : PV → SV
 | .lst L => .p (.lst L)
 | _ => .no
def ptrTo (off : Nat) : PV → SV
 | .agg cs => cond (Nat.beq off 0) (.elt (.agg cs)) (.eltF (.agg cs) off)
 | _ => .no
mutual
def SV.sub (κ : Nat) (L : PV) : SV → SV
 | .slc κ' => cond (Nat.beq κ' κ) (slcTo L) (.slc κ')
 | .rowE κ' sz i => cond (Nat.beq κ' κ) .no (.rowE κ' sz i)
 | .tl κ' sz i => cond (Nat.beq κ' κ) .no (.tl κ' sz i)
 | .fn f caps => .fn f (SV.subL κ L caps)
 | .mix cs => ofCells (SV.subL κ L cs)
 | .tupS cs => .tupS (SV.subL κ L cs)
 | .ptr κ' off => cond (Nat.beq κ' κ) (ptrTo off L) (.ptr κ' off)
 | x => x
def SV.subL (κ : Nat) (L : PV) : List SV → List SV
 | [] => []
 | x :: xs => x.sub κ L :: SV.subL κ L xs
end
def AO.sub (κ : Nat) (L : PV) : AO → AO
 | .var own t x => .var own t (x.sub κ L)
 | .fm t ks xs => .fm t ks (SV.subL κ L xs)
 | .rp t xs => .rp t (SV.subL κ L xs)
 | o => o
def S.frz (s : S) (κ : Nat) : S :=
 match s.η κ with
 | .row _ _ L => match s with | ⟨ρ, η⟩ => ⟨fun t => (ρ t).sub κ (.lst L), fun t => cond (Nat.beq t κ) .no ((η t).sub κ (.lst L))⟩
 | .var true _ (.p (.agg cs)) => match s with | ⟨ρ, η⟩ => ⟨fun t => (ρ t).sub κ (.agg cs), fun t => cond (Nat.beq t κ) .no ((η t).sub κ (.agg cs))⟩
 | _ => s
def S.frzL (s : S) : List Nat → S
 | [] => s
 | κ :: r => (s.frz κ).frzL r
def S.nl0 (s : S) (κ i q t sz : Nat) : S :=
 match s.η κ with
  | .var own ty (.mix cs) => match s.η q, cs[i]? with
   | .no, some (.p .nilS) => cond (Nat.blt 0 sz && Nat.blt q 2000) (match s with | ⟨ρ, η⟩ => ⟨ρ, fun k => cond (Nat.beq k κ) (.var own ty (.mix (cs.set i (.slc q)))) (cond (Nat.beq k q) (.row t sz []) (η k))⟩) s
   | _, _ => s
  | _ => s
def S.mx (s : S) (κ : Nat) : S :=
 match s.η κ with
 | .var own ty (.p (.agg cs)) => match s with | ⟨ρ, η⟩ => ⟨ρ, fun k => cond (Nat.beq k κ) (.var own ty (.mix (cs.map .p))) (η k)⟩
 | _ => s
def S.nl (s : S) (κ i q t sz : Nat) : S := (s.mx κ).nl0 κ i q t sz
def S.nlL (s : S) : List (Nat × Nat × Nat × Nat × Nat) → S
 | [] => s
 | (κ, i, q, t, sz) :: r => (s.nl κ i q t sz).nlL r
def SV.only (i : Nat) : SV → SV
 | .ptr κ off => cond (Nat.beq κ i) (.ptr κ off) .no
 | .slc κ => cond (Nat.beq κ i) (.slc κ) .no
 | _ => .no
def SV.nrm : List Nat → Option Nat → SV → SV
 | [], _, x => x
 | i :: P, d, x => SV.nrm P d (match d with
  | some q => cond (Nat.beq q i) (x.only i) (x.purge i)
  | none => x.purge i)
def AO.nrm (P : List Nat) : AO → AO
 | .var own t x => .var own t (x.nrm P none)
 | .fm t ks xs => .fm t ks (xs.map fun x => x.nrm P none)
 | .rp t xs => .rp t (xs.map fun x => x.nrm P none)
 | o => o
def U.nrm (P : List Nat) (d : Option Nat) (u : U) : U :=
 match P with
 | [] => u
 | i :: P => match u with
  | ⟨x, none, none, kill⟩ => ⟨x.nrm (i :: P) d, none, none, kill⟩
  | ⟨x, some o, none, kill⟩ => ⟨x.nrm (i :: P) d, some (o.nrm (i :: P)), none, kill⟩
  | ⟨x, none, some (q, o), kill⟩ => ⟨x.nrm (i :: P) d, none, some (q, o.nrm (i :: P)), kill⟩
  | ⟨x, some o, some (q, o'), kill⟩ => ⟨x.nrm (i :: P) d, some (o.nrm (i :: P)), some (q, o'.nrm (i :: P)), kill⟩
def S.nrm (P : List Nat) (s : S) : S :=
 match P with
 | [] => s
 | i :: P => match s with | ⟨ρ, η⟩ => ⟨fun t => (ρ t).nrm (i :: P) (some t), fun κ => (η κ).nrm (i :: P)⟩
def skU (P : List Nat) (d : Option Nat) : U := { x := match d with | some p => cond (P.contains p) .no (.tupS []) | none => .tupS [] }
def MVC (C : Cx) (own : Nat → Bool) (o : Oper) (s : S) (K : S → Prop) : Prop :=
 match o.op, o.dst with
 | .call c, some d => match c.callee with
  | .value f => match asFn (s.ev f) with
   | .fn f caps => SV.forceL (c.args.toList.map s.ev ++ caps) fun args => cond (own (d + 700000)) (∃ s', MCallVC0 C (own (d + 900000)) s f args d s' ∧ S.force s' K) (∃ s', MCallVC C s f args d s' ∧ S.force s' K)
   | _ => False
  | _ => False
 | _, _ => False
def vcOps (C : Cx) (own : Nat → Bool) (P : List Nat) (ops : Array Oper) : List Oper → (S → Prop) → S → Prop
 | [], K, s => K s
 | o :: rest, K, s => match o.guard with
  | none => cond (isMut own o) (MVC C own o s fun s => (s.nrm P).force fun s => vcOps C own P ops rest K s) (VC C own o s.ev s.η fun u => (u.nrm P o.dst).force fun u => (s.app o.dst u).force fun s => vcOps C own P ops rest K s)
  | some (j, want) => match (ops[j]?).bind (·.dst) with
   | none => False
   | some g => match s.ρ g with
    | .p (.bool b) => Bool.rec (motive := fun _ => Prop)
      (cond want (((s.put g (.p (.bool false))).app o.dst (skU P o.dst)).force fun s => vcOps C own P ops rest K s) (cond (isMut own o) (MVC C own o (s.put g (.p (.bool false))) fun s => (s.nrm P).force fun s => vcOps C own P ops rest K s) (VC C own o (s.put g (.p (.bool false))).ev s.η fun u => (u.nrm P o.dst).force fun u => ((s.put g (.p (.bool false))).app o.dst u).force fun s => vcOps C own P ops rest K s)))
      (cond want (cond (isMut own o) (MVC C own o (s.put g (.p (.bool true))) fun s => (s.nrm P).force fun s => vcOps C own P ops rest K s) (VC C own o (s.put g (.p (.bool true))).ev s.η fun u => (u.nrm P o.dst).force fun u => ((s.put g (.p (.bool true))).app o.dst u).force fun s => vcOps C own P ops rest K s)) (((s.put g (.p (.bool true))).app o.dst (skU P o.dst)).force fun s => vcOps C own P ops rest K s)) b
    | .tupS _ => (s.app o.dst (skU P o.dst)).force fun s => vcOps C own P ops rest K s
    | _ => False
def isNilC : Operand → Bool
 | .const (.slice none 0 0) => true
 | _ => false
def freeO0 (o : Oper) : Bool :=
 match o.op with
 | .move _ | .assign _ | .pick .. | .alloc _ | .load .. | .nilCheck _ | .binOp .. | .unOp .. | .makeFunc .. | .fieldAddr .. | .field .. | .indexAddr .. | .index .. | .slice .. | .extract .. | .build .. | .buildSlice .. | .makeSlice .. => true
 | .convert t t' _ => !(Nat.beq t t')
 | .call c => match c.callee with
  | .value _ => true
  | .builtin b => match b with
   | .len | .max | .min => true
   | .append => match c.args.toList with
    | [x, _] => isNilC x
    | _ => false
   | _ => false
  | _ => false
 | _ => false
def isTake (own : Nat → Bool) (o : Oper) : Bool :=
 match o.op with
 | .slice .. => takeB own o.dst
 | _ => false
def freeO1 (own : Nat → Bool) (o : Oper) : Bool := !isTake own o && freeO0 o
def freeO (own : Nat → Bool) (o : Oper) : Bool := !isMut own o && freeO1 own o
def mask (acc : List Nat) (o : Oper) : Nat := o.after.toList.foldl (fun m e => cond (Region.binds .any e) (m ||| 2 ^ e.on ||| acc.getD e.on 0) m) 0
def masks : List Oper → List Nat → List Nat
 | [], acc => acc
 | o :: r, acc => masks r (acc ++ [mask acc o])
def stO (P : List Nat) (o : Oper) : Option Nat :=
 match o.op, o.dst with
 | .store _ (.tmp p) _, none => cond (P.contains p) (some p) none
 | _, _ => none
def apO (own : Nat → Bool) (P : List Nat) (o : Oper) : Option Nat :=
 match o.op, o.dst with
 | .call c, some d => match c.callee, c.args.toList with
  | .builtin .append, [.tmp p, _] => cond (own (d + 200000) && P.contains p && !own (d + 400000)) (some p) none
  | _, _ => none
 | _, _ => none
def noTmp (p : Nat) (x : Oper) : Bool := x.op.operands.all fun y => match y with | .tmp t => !(Nat.beq t p) | _ => true
def mutQ (own : Nat → Bool) (o : Oper) : Bool :=
 match o.dst, o.guard with
 | some d, none => isMut own o && own (d + 700000)
 | _, _ => false
def stQ (o : Oper) : Bool :=
 match o.op, o.dst, o.guard with
 | .store .., none, none => true
 | _, _, _ => false
def pureO (own : Nat → Bool) (x : Oper) : Bool :=
 match x.dst, x.guard with
 | some d, none => match x.op with
  | .move _ | .assign _ => !own d
  | .nilCheck _ | .binOp .. | .unOp .. | .fieldAddr .. | .field .. | .extract .. => true
  | _ => false
 | _, _ => false
def isPin : SV → Bool
 | .ptr κ _ => Nat.ble 2000 κ
 | _ => false
def isLow : SV → Bool
 | .ptr κ _ => Nat.blt κ 1000
 | _ => false
def pinX (x : Oper) : Bool :=
 x.dst.isSome && (x.guard.isNone && match x.op with
 | .move _ | .load .. => true
 | _ => false)
def lowQ (own : Nat → Bool) (x o : Oper) : Bool :=
 match x.op with
 | .move _ => true
 | _ => match o.dst with
  | some d => own (d + 700000) && own (d + 900000)
  | none => false
def pinOk (x : Oper) (ev : Operand → SV) : Prop :=
 match x.op with
 | .move y => isPin (ev y) = true
 | .load _ y => isLow (ev y) = true
 | _ => False
def swapB (own : Nat → Bool) (P : List Nat) (ops : Array Oper) (o x : Oper) : Bool :=
 o.apart ops x && (x.apart ops o && (freeO own o && freeO own x || (P.isEmpty && ((mutQ own o || stQ o) && pureO own x || pureO own o && (mutQ own x || stQ x)) || match stO P o with | some p => freeO own x && noTmp p x | none => match stO P x with | some p => freeO own o && noTmp p o | none => match apO own P o with | some p => freeO own x && (noTmp p x && !(x.looksAt ops).contains p) | none => match apO own P x with | some p => freeO own o && (noTmp p o && !(o.looksAt ops).contains p) | none => false)))
def indep (own : Nat → Bool) (P : List Nat) (ops : Array Oper) : Bool :=
 let b := masks ops.toList []
 ops.toList.zipIdx.all fun (o, i) => (o.after.toList.all fun e => Nat.blt e.on i || !Region.binds .any e) && (o.guard.all fun g => o.after.toList.any fun e => Nat.beq e.on g.1 && Region.binds .any e) &&
  ops.toList.zipIdx.all fun (x, j) => !(Nat.blt j i) || (b.getD i 0).testBit j || swapB own P ops o x
def okT (own : Nat → Bool) (P : List Nat) (ops : Array Oper) (b : List Nat) : Bool → List Nat → Tr → Bool
 | full, rem, .fin => full && rem.isEmpty
 | full, rem, .one i t => rem.contains i && (!full || rem.all fun j => Nat.beq j i || (b.getD j 0).testBit i || (match ops[i]?, ops[j]? with | some o, some x => swapB own P ops o x | _, _ => false)) && okT own P ops b true (rem.erase i) t
 | full, rem, .alt x y => (!full || rem.all fun j => (x.heads ++ y.heads).contains j || rem.any fun i => (b.getD j 0).testBit i) && okT own P ops b false rem x && okT own P ops b false rem y
 | full, rem, .keep _ _ t => full && (P.isEmpty && ((match t.isOne with
  | some i => rem.contains i && (rem.all (fun j => Nat.beq j i || (b.getD j 0).testBit i) && (List.range b.length).all fun j => rem.contains j || (b.getD i 0).testBit j)
  | none => false) && okT own P ops b true rem t))
 | full, rem, .pin i t => full && (P.isEmpty && (rem.contains i && ((match ops[i]? with
  | some x => pinX x && rem.all fun j => Nat.beq j i || (b.getD j 0).testBit i || (match ops[j]? with
   | some o => o.apart ops x && (x.apart ops o && (freeO own o || (isMut own o && (o.guard.isNone && lowQ own x o))))
   | none => false)
  | none => false) && okT own P ops b true (rem.erase i) t)))
def eqL : List Nat → List Nat → Bool
 | [], [] => true
 | a :: l, b :: r => Nat.beq a b && eqL l r
 | _, _ => false
theorem eqL_eq : ∀ {l r : List Nat}, eqL l r = true → l = r
 | [], [], _ => rfl
 | [], _ :: _, h => by cases h
 | _ :: _, [], h => by cases h
 | a :: l, b :: r, h => by
  rw [eqL, Bool.and_eq_true] at h
  rw [Nat.eq_of_beq_eq_true h.1, eqL_eq h.2]
def treeOk (own : Nat → Bool) (P : List Nat) (ops : Array Oper) (b : List Nat) (t : Tr) : Bool :=
 (ops.toList.zipIdx.all fun (o, i) => (o.after.toList.all fun e => Nat.blt e.on i || !Region.binds .any e) && (o.guard.all fun g => o.after.toList.any fun e => Nat.beq e.on g.1 && Region.binds .any e)) &&
  eqL (masks ops.toList []) b && okT own P ops b true (List.range b.length) t
structure Indep1 (own : Nat → Bool) (P : List Nat) (ops : Array Oper) : Prop where
 h : indep own P ops = true
structure Tree1 (own : Nat → Bool) (P : List Nat) (ops : Array Oper) (b : List Nat) (t : Tr) : Prop where
 h : treeOk own P ops b t = true
def opAt : List Oper → Nat → (Oper → Prop) → Prop
 | [], _, _ => False
 | o :: _, 0, k => k o
 | _ :: r, i + 1, k => opAt r i k
theorem opAt_eq : ∀ (l : List Oper) (i : Nat) (k : Oper → Prop), opAt l i k ↔ ∃ o, l[i]? = some o ∧ k o
 | [], i, k => ⟨fun h => h.elim, fun ⟨o, h, _⟩ => by simp at h⟩
 | o :: l, 0, k => ⟨fun h => ⟨o, rfl, h⟩, fun ⟨o', h, hk⟩ => by simp at h; subst h; exact hk⟩
 | o :: l, i + 1, k => by simpa [opAt] using opAt_eq l i k
def OLE (a b : AO) : Prop := b = .no ∨ a = b ∨ (∃ own t x y, a = .var own t x ∧ b = .var own t y ∧ LE x y) ∨ (∃ t ks xs ys, a = .fm t ks xs ∧ b = .fm t ks ys ∧ LEL xs ys) ∨ ∃ t xs ys, a = .rp t xs ∧ b = .rp t ys ∧ LEL xs ys
structure WF (s : S) : Prop where
 ρ : ∀ t κ, κ ∈ (s.ρ t).keys → (s.η κ).live = true
 η : ∀ t κ, κ ∈ (s.η t).keys → (s.η κ).live = true
structure Ge0 (s σ : S) : Prop where
 ρ : ∀ t, LE (s.ρ t) (σ.ρ t)
 η : ∀ κ, OLE (s.η κ) (σ.η κ)
 wf : WF σ
structure GeR (g : Nat → Nat) (s σ : S) : Prop where
 ρ : ∀ t, LE (s.ρ t) ((σ.ρ t).ren g)
 η : ∀ κ, OLE (s.η (g κ)) ((σ.η κ).ren g)
 inj : ∀ κ κ', (σ.η κ).mine = true → (σ.η κ').mine = true → g κ = g κ' → κ = κ'
 pin : ∀ κ, 2000 ≤ κ → g κ = κ
 wf : WF σ
def Ge (s σ : S) : Prop := ∃ g, GeR g s σ
def S.of (l : List (Nat × SV)) (o : List (Nat × AO)) : S := { ρ := look l, η := lookO o }
def okS (l : List (Nat × SV)) (o : List (Nat × AO)) : Bool := (l.all fun x => x.2.keys.all fun κ => (lookO o κ).live) && (o.all fun x => x.2.keys.all fun κ => (lookO o κ).live)
def flatL : List Nat → S → (List (Nat × SV) → Prop) → Prop
 | [], _, k => k []
 | t :: ts, s, k => (s.ρ t).force fun x => flatL ts s fun l => k ((t, x) :: l)
def flatO : List Nat → S → (List (Nat × AO) → Prop) → Prop
 | [], _, k => k []
 | t :: ts, s, k => (s.η t).force fun x => flatO ts s fun l => k ((t, x) :: l)
def keepK (c : Option (List Nat × List Nat)) (s : S) (k : S → Prop) : Prop :=
 match c with
 | none => k s
 | some (ts, os) => flatL ts s fun l => flatO os s fun o => okS l o = true ∧ k (S.of l o)
def vcTr (C : Cx) (own : Nat → Bool) (P : List Nat) (ops : Array Oper) : Tr → (S → Prop) → S → Prop
 | .fin, K, s => K s
 | .one i t, K, s => opAt ops.toList i fun o => vcOps C own P ops [o] (vcTr C own P ops t K) s
 | .alt x y, K, s => vcTr C own P ops x K s ∧ vcTr C own P ops y K s
 | .keep ts os t, K, s => keepK (some (ts, os)) s (vcTr C own P ops t K)
 | .pin i t, K, s => opAt ops.toList i fun o => pinOk o s.ev ∧ vcOps C own P ops [o] (vcTr C own P ops t K) s
structure Fm where
 m : Nat → Prop
 β : Nat → Value
def may (F : Fm) (w0 : World) (b : Nat) : Prop := F.m b ∨ w0.heap.size ≤ b
structure Keep (F : Fm) (w0 w : World) : Prop where
 os : w.os = w0.os
 tape : w.tape = w0.tape
 output : w.output = w0.output
 size : w0.heap.size ≤ w.heap.size
 block : ∀ b, b < w0.heap.size → ¬ F.m b → w.heap[b]? = w0.heap[b]?
structure StO (C : Cx) (n : Nat) (F : Fm) (ok0 : Nat → Prop) (w0 : World) (ok : Nat → Prop) (β : Nat → Value) (s : S) (a : Act) (w : World) : Prop where
 lt : ∀ b, ok b → b < w.heap.size
 new : ∀ b, ok b → ok0 b ∨ may F w0 b
 old : ∀ b, ok0 b → ok b
 gx : GX C ok w
 defers : a.defers = []
 size : a.tmps.size = n
 ρ : ∀ t, R ok β w (s.ρ t) (a.tmps.getD t undef)
 η : ∀ κ, OB C ok β w (may F w0) κ (s.η κ)
 ro : ∀ κ t x b, s.η κ = .var false t x → blockOf (β κ) = some b → ¬ may F w0 b
 dis : ∀ κ κ' b, (s.η κ).mine = true → (s.η κ').mine = true → blockOf (β κ) = some b → blockOf (β κ') = some b → κ = κ'
 wf : WF s
 below : Keep F w0 w
 n2 : n ≤ 2000
 pin : ∀ κ, 2000 ≤ κ → β κ = F.β κ
def St (C : Cx) (n : Nat) (F : Fm) (ok0 : Nat → Prop) (w0 : World) (s : S) (a : Act) (w : World) : Prop := ∃ ok β, StO C n F ok0 w0 ok β s a w
def okC (n : Nat) : Code → Bool
 | .region _ ops _ => ops.toList.all fun o => match o.dst with | some d => Nat.blt d n | none => true
 | .seq a b => okC n a && okC n b
 | .cond _ a b => okC n a && okC n b
 | .block _ c => okC n c
 | .loop c => okC n c
 | .scope c => okC n c
 | _ => true
def noGo (Q : Exit → S → Prop) : Exit → S → Prop
 | .goto _, _ => False
 | .normal, s => Q .normal s
 | .exit id, s => Q (.exit id) s
 | .ret, s => Q .ret s
 | .panic ch, s => Q (.panic ch) s
 | .outgrown, s => Q .outgrown s
structure ScopeR (C : Cx) (c : Code) (l : Nat) (Q : Exit → S → Prop) (s : S) : Prop where
 out : ∃ rest, findLabel c l = some rest ∧ ∀ (n : Nat) (F : Fm) (ok0 : Nat → Prop) (w0 : World) (a : Act) (w : World), okC n c = true → St C n F ok0 w0 s a w →
  rest.wp C.P (fun e a' w' => ∃ s', noGo Q e s' ∧ St C n F ok0 w0 s' a' w') a w
def vc (C : Cx) (cfg : Cfg) : Code → (Exit → S → Prop) → S → Prop
 | .skip, Q, s => Q .normal s
 | .region id ops draw, Q, s => keepK (cfg.kp id) s fun s => cond draw (match cfg.tr id with
  | none => Indep1 cfg.own (cfg.ps id) ops ∧ ((((s.nlL (cfg.nl id)).frzL (cfg.fz id)).nrm (cfg.ps id)).force fun s => vcOps C cfg.own (cfg.ps id) ops ops.toList (Q .normal) s)
  | some (b, t) => Tree1 cfg.own (cfg.ps id) ops b t ∧ ((((s.nlL (cfg.nl id)).frzL (cfg.fz id)).nrm (cfg.ps id)).force fun s => vcTr C cfg.own (cfg.ps id) ops t (Q .normal) s)) (((s.nlL (cfg.nl id)).frzL (cfg.fz id)).force fun s => vcOps C cfg.own [] ops ops.toList (Q .normal) s)
 | .seq a b, Q, s => vc C cfg a (fun e s => match e with | .normal => vc C cfg b Q s | e => Q e s) s
 | .cond c a b, Q, s => match s.ev c with
  | .p (.bool t) => Bool.rec (motive := fun _ => Prop) (vc C cfg b Q s) (vc C cfg a Q s) t
  | .nilQ L => (L = [] → vc C cfg a Q s) ∧ vc C cfg b Q s
  | _ => False
 | .block id c, Q, s => vc C cfg c (fun e s => match e with | .exit id' => cond (Nat.beq id' id) (Q .normal s) (Q (.exit id') s) | e => Q e s) s
 | .loop c, Q, s => ∃ (ι : Type) (σ : ι → S) (μ : ι → Nat) (i0 : ι), Ge s (σ i0) ∧ ∀ i, vc C cfg c (fun e s' => match e with | .normal => ∃ i', Ge s' (σ i') ∧ μ i' < μ i | e => Q e s') (σ i)
 | .exit id, Q, s => Q (.exit id) s
 | .ret, Q, s => Q .ret s
 | .scope c, Q, s => ∃ l, vc C cfg c (fun e s => match e with | .goto l' => l' = l ∧ ScopeR C c l Q s | e => Q e s) s
 | .label _, Q, s => Q .normal s
 | .goto l, Q, s => Q (.goto l) s
 | _, _, _ => False
theorem eval_put {a : Act} {d t : Nat} {v : Value} (hd : d < a.tmps.size) : (a.put (some d) v).tmps.getD t undef = if t = d then v else a.tmps.getD t undef := by
 simp only [Act.put, Array.getD_eq_getD_getElem?]
 rw [Array.getElem?_setIfInBounds]
 by_cases h : t = d
 ·subst h; simp [hd]
 ·rw [if_neg (by omega), if_neg h]
theorem beq_ite {α : Type} (t d : Nat) (x y : α) : cond (Nat.beq t d) x y = if t = d then x else y := by
 by_cases h : t = d
 ·subst h; simp
 ·have : Nat.beq t d = false := by rw [← Bool.not_eq_true, Nat.beq_eq]; exact h
  rw [this, if_neg h]; rfl
theorem S.put_ρ (s : S) (d : Nat) (x : SV) (t : Nat) : (s.put d x).ρ t = if t = d then x else s.ρ t := beq_ite t d x _
theorem S.set_η (s : S) (κ : Nat) (o : AO) (t : Nat) : (s.set κ o).η t = if t = κ then o else s.η t := beq_ite t κ o _
section
variable {C : Cx} {n : Nat} {F : Fm} {ok0 : Nat → Prop} {w0 : World} {ok : Nat → Prop} {β : Nat → Value} {s : S} {a : Act} {w : World}
theorem WF.put (h : WF s) {d : Nat} {x : SV} (hx : ∀ κ ∈ x.keys, (s.η κ).live = true) : WF (s.put d x) :=
 ⟨fun t κ hk => by
  rw [S.put_ρ] at hk
  split at hk
  ·exact hx κ hk
  ·exact h.ρ t κ hk, h.η⟩
theorem StO.put (h : StO C n F ok0 w0 ok β s a w) {d : Nat} (hd : d < n) {x : SV} {v : Value} (hr : R ok β w x v) (hk : ∀ κ ∈ x.keys, (s.η κ).live = true) :
  StO C n F ok0 w0 ok β (s.put d x) (a.put (some d) v) w :=
 {h with
  defers := h.defers
  size := by simp [Act.put, h.size]
  ρ := fun t => by
   rw [S.put_ρ, eval_put (by rw [h.size]; exact hd)]
   split
   ·exact hr
   ·exact h.ρ t
  wf := h.wf.put hk }
theorem wp_value {P : Program} {o : Oper} {next : Act → World → Prop} {Q : Exit → Act → World → Prop} {v : Value} {w' : World}
  (hr : (execOp a.eval o).run P w = .ok (.value v) w') (h : next (a.put o.dst v) w') : o.wp P a w next Q := by
 unfold Oper.wp
 rw [hr]
 exact h
theorem wp_skip {P : Program} {o : Oper} {next : Act → World → Prop} {Q : Exit → Act → World → Prop} {w' : World}
  (hr : (execOp a.eval o).run P w = .ok .skip w') (h : next (a.put o.dst undef) w') : o.wp P a w next Q := by
 unfold Oper.wp
 rw [hr]
 exact h
theorem cv0_R {v : Value} (h : one v) : RP ok w (cv0 v) v := by
 unfold cv0
 split <;> simp_all [RP]
theorem cv_R (v : Value) : R ok β w (cv v) v := by
 unfold cv
 split
 ·rename_i cs
  cases hall : cs.toList.all Value.oneCell' with
  | false => trivial
  | true =>
   show R ok β w (.p (.agg (cs.toList.map cv0))) _
   rw [R, RP]
   refine ⟨cs.toList, by simp, fun u hu => List.all_eq_true.1 hall u hu, ?_⟩
   have key : ∀ l : List Value, (l.all Value.oneCell' = true) → RPL ok w (l.map cv0) l := by
    intro l
    induction l with
    | nil => intro _; trivial
    | cons u l ih =>
     intro hl
     simp only [List.all_cons, Bool.and_eq_true] at hl
     exact ⟨cv0_R hl.1, ih hl.2⟩
   exact key _ hall
 ·trivial
 ·rename_i h1 h2
  rw [R]
  refine cv0_R ?_
  cases v <;> first | rfl | (exact absurd rfl (h1 _)) | (exact absurd rfl (h2 _))
theorem ev_R (h : StO C n F ok0 w0 ok β s a w) (x : Operand) : R ok β w (s.ev x) (a.eval x) := by
 cases x with
 | tmp t => exact h.ρ t
 | const v => exact cv_R v
 | global g => show R ok β w (.glob g) _; rw [R]; rfl
 | func f => show R ok β w (.fn f []) _; rw [R]; exact ⟨[], rfl, trivial⟩
end
end Go.Vc
namespace Go.Vc
open Go Go.RowKit
def flatD : Option TypeDesc → Bool
 | some (.struct _) => false
 | some (.array ..) => false
 | some _ => true
 | none => false
def aggD : Option TypeDesc → Bool
 | some (.struct _) => true
 | some (.array ..) => true
 | _ => false
def KindOk (P : Program) (ti : TI) : TypeDesc → Prop
 | .struct fs => ti.k = 1 ∧ ti.agg = true ∧ fs.toList.map (fun f => (f.offset, (P.info? f.type).map (·.size))) = (ti.flds.map fun x => (x.1, some x.2)) ∧ fs.toList.all (fun f => cond (Option.getD ((P.info? f.type).map (·.size)) 0 == 1) (flatD (P.underlying f.type)) (aggD (P.underlying f.type))) = true
 | .slice e => ti.k = 2 ∧ ti.agg = false ∧ e = ti.elem
 | .array n e => ti.k = 3 ∧ ti.agg = true ∧ n = ti.alen ∧ e = ti.elem
 | .string => ti.k = 4 ∧ ti.agg = false
 | .int j => ti.k = 5 ∧ ti.agg = false ∧ ti.zero = .int j 0
 | .bool => ti.k = 6 ∧ ti.agg = false
 | .map key e => ti.agg = false ∧ e = ti.elem ∧ (ti.k = 7 ∧ P.underlying key = some .string ∨ ti.k = 8 ∧ P.underlying key = some (.int .i64))
 | .pointer _ => (ti.k = 0 ∨ ti.k = 9) ∧ ti.agg = false
 | .func _ _ _ => (ti.k = 0 ∨ ti.k = 10) ∧ ti.agg = false
 | .interface _ => (ti.k = 0 ∨ ti.k = 11) ∧ ti.agg = false
 | _ => ti.k = 0 ∧ ti.agg = false
structure TyOk (P : Program) (t : Nat) (ti : TI) : Prop where
 out : ∃ (i : TypeInfo) (d : TypeDesc) (z : Value), P.info? t = some i ∧ P.underlying t = some d ∧ i.size = ti.sz ∧ i.bytes = ti.bytes ∧ i.zero = some z ∧ cv z = .p ti.zero ∧ z.cells.size = ti.sz ∧ KindOk P ti d ∧ (ti.agg = false → one z) ∧ (ti.agg = true → z = .agg z.cells)
structure CxOk (C : Cx) : Prop where
 ty : ∀ t ti, C.T t = some ti → TyOk C.P t ti
 x : ∀ ok ok' w w', C.X ok w → (∀ b, ok b → ok' b) → Stay ok w w' → (∀ b, ok b → b < w.heap.size) → C.X ok' w'
section
variable {P : Program} {t : Nat} {ti : TI}
theorem TyOk.size (h : TyOk P t ti) (w : World) : (sizeOf t).run P w = .ok ti.sz w := by
 obtain ⟨i, d, z, h1, h2, h3, _⟩ := h.out
 simp [sizeOf, typeInfo, h1, h3]
theorem TyOk.isAgg (h : TyOk P t ti) (w : World) : (isAgg t).run P w = .ok ti.agg w := by
 obtain ⟨i, d, z, h1, h2, _, _, _, _, _, h3, _⟩ := h.out
 cases d <;> simp_all [Go.isAgg, underlying, KindOk]
theorem TyOk.zero (h : TyOk P t ti) (w : World) : ∃ z, (zeroValue t).run P w = .ok z w ∧ cv z = .p ti.zero ∧ z.cells.size = ti.sz ∧ (ti.agg = false → one z) ∧ (ti.agg = true → z = .agg z.cells) := by
 obtain ⟨i, d, z, h1, h2, h3, _, h4, h5, h6, _, h7, h8⟩ := h.out
 exact ⟨z, by simp [zeroValue, typeInfo, h1, h4], h5, h6, h7, h8⟩
theorem TyOk.slice (h : TyOk P t ti) (hk : ti.k = 2) : P.underlying t = some (.slice ti.elem) := by
 obtain ⟨i, d, z, h1, h2, _, _, _, _, _, h3, _⟩ := h.out
 cases d <;> simp_all [KindOk]
theorem TyOk.ptr (h : TyOk P t ti) (hk : ti.k = 9) : ∃ e, P.underlying t = some (.pointer e) := by
 obtain ⟨i, d, z, h1, h2, _, _, _, _, _, h3, _⟩ := h.out
 cases d <;> simp_all [KindOk]
theorem TyOk.func (h : TyOk P t ti) (hk : ti.k = 10) : ∃ a b c, P.underlying t = some (.func a b c) := by
 obtain ⟨i, d, z, h1, h2, _, _, _, _, _, h3, _⟩ := h.out
 cases d <;> simp_all [KindOk]
theorem TyOk.iface (h : TyOk P t ti) (hk : ti.k = 11) : ∃ l, P.underlying t = some (.interface l) := by
 obtain ⟨i, d, z, h1, h2, _, _, _, _, _, h3, _⟩ := h.out
 cases d <;> simp_all [KindOk]
theorem TyOk.array (h : TyOk P t ti) (hk : ti.k = 3) : P.underlying t = some (.array ti.alen ti.elem) := by
 obtain ⟨i, d, z, h1, h2, _, _, _, _, _, h3, _⟩ := h.out
 cases d <;> simp_all [KindOk]
theorem TyOk.string (h : TyOk P t ti) (hk : ti.k = 4) : P.underlying t = some .string := by
 obtain ⟨i, d, z, h1, h2, _, _, _, _, _, h3, _⟩ := h.out
 cases d <;> simp_all [KindOk]
theorem TyOk.int (h : TyOk P t ti) (hk : ti.k = 5) : ∃ j, P.underlying t = some (.int j) ∧ ti.zero = .int j 0 := by
 obtain ⟨i, d, z, h1, h2, _, _, _, _, _, h3, _⟩ := h.out
 cases d <;> simp_all [KindOk]
theorem TyOk.map (h : TyOk P t ti) (hk : (Nat.beq ti.k 7 || Nat.beq ti.k 8) = true) : ∃ key, P.underlying t = some (.map key ti.elem) ∧ P.underlying key = some (cond (Nat.beq ti.k 7) .string (.int .i64)) := by
 obtain ⟨i, d, z, h1, h2, _, _, _, _, _, h3, _⟩ := h.out
 have hk : ti.k = 7 ∨ ti.k = 8 := by simpa using hk
 cases d <;> simp only [KindOk] at h3
 case map key e =>
  obtain ⟨_, rfl, h4⟩ := h3
  refine ⟨key, h2, ?_⟩
  rcases h4 with ⟨h4, h5⟩ | ⟨h4, h5⟩
  ·rw [h4]; exact h5
  ·rw [h4]; exact h5
 all_goals omega
theorem TyOk.und (h : TyOk P t ti) : ∃ d, P.underlying t = some d := by
 obtain ⟨i, d, z, h1, h2, _⟩ := h.out
 exact ⟨d, h2⟩
theorem TyOk.bool (h : TyOk P t ti) (hk : ti.k = 6) : P.underlying t = some .bool := by
 obtain ⟨i, d, z, h1, h2, _, _, _, _, _, h3, _⟩ := h.out
 cases d <;> simp_all [KindOk]
end
theorem RPL_drop {ok : Nat → Prop} {w : World} : ∀ {xs : List PV} {vs : List Value} (n : Nat), RPL ok w xs vs → RPL ok w (xs.drop n) (vs.drop n)
 | xs, vs, 0, h => by simpa using h
 | [], [], n + 1, h => by simpa using h
 | [], _ :: _, n + 1, h => h.elim
 | _ :: _, [], n + 1, h => h.elim
 | x :: xs, v :: vs, n + 1, h => by simpa using RPL_drop n h.2
theorem RPL_take {ok : Nat → Prop} {w : World} : ∀ {xs : List PV} {vs : List Value} (n : Nat), RPL ok w xs vs → RPL ok w (xs.take n) (vs.take n)
 | xs, vs, 0, h => by simp [RPL]
 | [], [], n + 1, h => by simp [RPL]
 | [], _ :: _, n + 1, h => h.elim
 | _ :: _, [], n + 1, h => h.elim
 | x :: xs, v :: vs, n + 1, h => by simpa using ⟨h.1, RPL_take n h.2⟩
section
variable {ok : Nat → Prop} {β : Nat → Value} {w : World}
theorem RL_drop : ∀ {xs : List SV} {vs : List Value} (n : Nat), RL ok β w xs vs → RL ok β w (xs.drop n) (vs.drop n)
 | xs, vs, 0, h => by simpa using h
 | [], [], n + 1, h => by simpa using h
 | [], _ :: _, n + 1, h => h.elim
 | _ :: _, [], n + 1, h => h.elim
 | x :: xs, v :: vs, n + 1, h => by simpa using RL_drop n h.2
theorem RL_take : ∀ {xs : List SV} {vs : List Value} (n : Nat), RL ok β w xs vs → RL ok β w (xs.take n) (vs.take n)
 | xs, vs, 0, h => by simp [RL]
 | [], [], n + 1, h => by simp [RL]
 | [], _ :: _, n + 1, h => h.elim
 | _ :: _, [], n + 1, h => h.elim
 | x :: xs, v :: vs, n + 1, h => by simpa using ⟨h.1, RL_take n h.2⟩
theorem RL_append : ∀ {xs ys : List SV} {vs us : List Value}, RL ok β w xs vs → RL ok β w ys us → RL ok β w (xs ++ ys) (vs ++ us)
 | [], ys, [], us, h, h' => by simpa using h'
 | [], _, _ :: _, _, h, _ => h.elim
 | _ :: _, _, [], _, h, _ => h.elim
 | x :: xs, ys, v :: vs, us, h, h' => ⟨h.1, RL_append h.2 h'⟩
theorem RL_set : ∀ {xs : List SV} {vs : List Value} {x : SV} {v : Value} (n : Nat), RL ok β w xs vs → R ok β w x v → RL ok β w (xs.set n x) (vs.set n v)
 | [], [], x, v, n, h, _ => by simpa using h
 | [], _ :: _, x, v, n, h, _ => h.elim
 | _ :: _, [], x, v, n, h, _ => h.elim
 | y :: xs, u :: vs, x, v, 0, h, hx => by simpa using ⟨hx, h.2⟩
 | y :: xs, u :: vs, x, v, n + 1, h, hx => by simpa using ⟨h.1, RL_set n h.2 hx⟩
theorem RL_map_p : ∀ {xs : List PV} {vs : List Value}, RPL ok w xs vs → RL ok β w (xs.map .p) vs
 | [], [], h => trivial
 | [], _ :: _, h => h.elim
 | _ :: _, [], h => h.elim
 | x :: xs, v :: vs, h => ⟨h.1, RL_map_p h.2⟩
theorem allP_R : ∀ {xs : List SV} {ps : List PV} {vs : List Value}, allP xs = some ps → RL ok β w xs vs → RPL ok w ps vs
 | [], ps, [], e, h => by simp [allP] at e; subst e; trivial
 | [], ps, _ :: _, e, h => h.elim
 | _ :: _, ps, [], e, h => h.elim
 | .p x :: xs, ps, v :: vs, e, h => by
  simp only [allP, Option.map_eq_some_iff] at e
  obtain ⟨qs, e1, rfl⟩ := e
  exact ⟨h.1, allP_R e1 h.2⟩
 | .no :: xs, ps, v :: vs, e, h => by simp [allP] at e
 | .elt _ :: xs, ps, v :: vs, e, h => by simp [allP] at e
 | .eltF _ _ :: xs, ps, v :: vs, e, h => by simp [allP] at e
 | .rowE _ _ _ :: xs, ps, v :: vs, e, h => by simp [allP] at e
 | .tl _ _ _ :: xs, ps, v :: vs, e, h => by simp [allP] at e
 | .ptr _ _ :: xs, ps, v :: vs, e, h => by simp [allP] at e
 | .slc _ :: xs, ps, v :: vs, e, h => by simp [allP] at e
 | .fn _ _ :: xs, ps, v :: vs, e, h => by simp [allP] at e
 | .mix _ :: xs, ps, v :: vs, e, h => by simp [allP] at e
 | .tupS _ :: xs, ps, v :: vs, e, h => by simp [allP] at e
 | .glob _ :: xs, ps, v :: vs, e, h => by simp [allP] at e
 | .nilQ _ :: xs, ps, v :: vs, e, h => by simp [allP] at e
theorem ofCells_R {xs : List SV} {vs : List Value} (h : RL ok β w xs vs) (h1 : ∀ u ∈ vs, one u) : R ok β w (ofCells xs) (.agg vs.toArray) := by
 unfold ofCells
 split
 ·rename_i ps e
  rw [R, RP]
  exact ⟨vs, rfl, h1, allP_R e h⟩
 ·rw [R]
  exact ⟨vs, rfl, h1, h⟩
theorem R_shape {x : SV} {v : Value} {sh : Bool × Nat} (h : R ok β w x v) (e : x.shape = some sh) : (∀ u ∈ v.cells.toList, one u) ∧ v.cells.size = sh.2 ∧ (sh.1 = true → v = .agg v.cells) ∧ (sh.1 = false → one v) := by
 cases x with
 | p x =>
  simp only [SV.shape, Option.some.injEq] at e
  subst e
  rw [R] at h
  exact RP_one h
 | mix cs =>
  simp only [SV.shape, Option.some.injEq] at e
  subst e
  rw [R] at h
  obtain ⟨vs, rfl, h1, h2⟩ := h
  simp [Value.cells, RL_length h2]
  exact h1
 | no => simp [SV.shape] at e
 | tupS cs => simp [SV.shape] at e
 | elt y =>
  simp only [SV.shape, Option.some.injEq] at e; subst e
  rw [R] at h
  obtain ⟨ad, c, rfl, _⟩ := h
  simp [one, Value.oneCell', Value.cells]
 | eltF y f =>
  simp only [SV.shape, Option.some.injEq] at e; subst e
  rw [R] at h
  obtain ⟨ad, c, rfl, _⟩ := h
  simp [one, Value.oneCell', Value.cells]
 | rowE κ sz i =>
  simp only [SV.shape, Option.some.injEq] at e; subst e
  rw [R] at h
  obtain ⟨g, n, cap, _, rfl⟩ := h
  simp [one, Value.oneCell', Value.cells]
 | tl κ sz i =>
  simp only [SV.shape, Option.some.injEq] at e; subst e
  rw [R] at h
  obtain ⟨g, n, cap, _, rfl⟩ := h
  simp [one, Value.oneCell', Value.cells]
 | ptr κ off =>
  simp only [SV.shape, Option.some.injEq] at e; subst e
  rw [R] at h
  obtain ⟨b, _, rfl⟩ := h
  simp [one, Value.oneCell', Value.cells]
 | slc κ =>
  simp only [SV.shape, Option.some.injEq] at e; subst e
  rw [R] at h
  obtain ⟨_, h1⟩ := h
  have hc := one_cells h1
  refine ⟨fun u hu => ?_, by rw [hc]; rfl, by simp, fun _ => h1⟩
  rw [hc] at hu
  simp at hu
  rw [hu]; exact h1
 | fn f caps =>
  simp only [SV.shape, Option.some.injEq] at e; subst e
  rw [R] at h
  obtain ⟨vs, rfl, _⟩ := h
  simp [one, Value.oneCell', Value.cells]
 | glob g =>
  simp only [SV.shape, Option.some.injEq] at e; subst e
  rw [R] at h
  subst h
  simp [one, Value.oneCell', Value.cells]
 | nilQ L =>
  simp only [SV.shape, Option.some.injEq] at e; subst e
  rw [R] at h
  obtain ⟨b, rfl, _⟩ := h
  simp [one, Value.oneCell', Value.cells]
theorem cells_R {y : SV} {v : Value} {cs : List SV} (h : R ok β w y v) (e : y.cells = some cs) : RL ok β w cs v.cells.toList := by
 have key : ∀ x : SV, R ok β w x v → x.shape = some (false, 1) → RL ok β w [x] v.cells.toList := by
  intro x hx hs
  have := (R_shape hx hs).2.2.2 rfl
  rw [one_cells this]
  exact ⟨hx, trivial⟩
 cases y with
 | no => simp [SV.cells] at e
 | tupS cs => simp [SV.cells] at e
 | mix l =>
  simp only [SV.cells, Option.some.injEq] at e
  subst e
  rw [R] at h
  obtain ⟨vs, rfl, h1, h2⟩ := h
  simpa [Value.cells] using h2
 | p x =>
  cases x with
  | agg l =>
   simp only [SV.cells, Option.some.injEq] at e
   subst e
   rw [R, RP] at h
   obtain ⟨vs, rfl, h1, h2⟩ := h
   simpa [Value.cells] using RL_map_p (β := β) h2
  | int k n => simp only [SV.cells, Option.some.injEq] at e; subst e; exact key _ h rfl
  | bool b => simp only [SV.cells, Option.some.injEq] at e; subst e; exact key _ h rfl
  | str l => simp only [SV.cells, Option.some.injEq] at e; subst e; exact key _ h rfl
  | exact u => simp only [SV.cells, Option.some.injEq] at e; subst e; exact key _ h rfl
  | nilS => simp only [SV.cells, Option.some.injEq] at e; subst e; exact key _ h rfl
  | err => simp only [SV.cells, Option.some.injEq] at e; subst e; exact key _ h rfl
  | lst L => simp only [SV.cells, Option.some.injEq] at e; subst e; exact key _ h rfl
 | elt y => simp only [SV.cells, Option.some.injEq] at e; subst e; exact key _ h rfl
 | eltF y f => simp only [SV.cells, Option.some.injEq] at e; subst e; exact key _ h rfl
 | rowE κ sz i => simp only [SV.cells, Option.some.injEq] at e; subst e; exact key _ h rfl
 | tl κ sz i => simp only [SV.cells, Option.some.injEq] at e; subst e; exact key _ h rfl
 | ptr κ off => simp only [SV.cells, Option.some.injEq] at e; subst e; exact key _ h rfl
 | slc κ => simp only [SV.cells, Option.some.injEq] at e; subst e; exact key _ h rfl
 | fn f caps => simp only [SV.cells, Option.some.injEq] at e; subst e; exact key _ h rfl
 | glob g => simp only [SV.cells, Option.some.injEq] at e; subst e; exact key _ h rfl
 | nilQ L => simp only [SV.cells, Option.some.injEq] at e; subst e; exact key _ h rfl
theorem keysL_mem {l : List SV} {x : SV} {κ : Nat} (hx : x ∈ l) (hk : κ ∈ x.keys) : κ ∈ SV.keysL l := by
 induction l with
 | nil => cases hx
 | cons y l ih =>
  simp only [SV.keysL, List.mem_append]
  cases hx with
  | head => exact .inl hk
  | tail _ h => exact .inr (ih h)
theorem keysL_sub {l l' : List SV} (h : ∀ x ∈ l, x ∈ l') {κ : Nat} (hk : κ ∈ SV.keysL l) : κ ∈ SV.keysL l' := by
 induction l with
 | nil => simp [SV.keysL] at hk
 | cons y l ih =>
  simp only [SV.keysL, List.mem_append] at hk
  rcases hk with hk | hk
  ·exact keysL_mem (h y (List.mem_cons_self ..)) hk
  ·exact ih (fun x hx => h x (List.mem_cons_of_mem _ hx)) hk
theorem keysL_append (l l' : List SV) : SV.keysL (l ++ l') = SV.keysL l ++ SV.keysL l' := by
 induction l with
 | nil => rfl
 | cons x l ih => simp [SV.keysL, ih, List.append_assoc]
theorem keysL_map_p (l : List PV) : SV.keysL (l.map .p) = [] := by
 induction l with
 | nil => rfl
 | cons x l ih => simp [SV.keysL, SV.keys, ih]
theorem cells_keys {y : SV} {cs : List SV} (e : y.cells = some cs) {κ : Nat} (hk : κ ∈ SV.keysL cs) : κ ∈ y.keys := by
 cases y with
 | no => simp [SV.cells] at e
 | tupS l => simp [SV.cells] at e
 | mix l => simp only [SV.cells, Option.some.injEq] at e; subst e; simpa [SV.keys] using hk
 | p x =>
  cases x <;> simp only [SV.cells, Option.some.injEq] at e <;> subst e <;> simp_all [SV.keysL, SV.keys, keysL_map_p]
 | elt y => simp only [SV.cells, Option.some.injEq] at e; subst e; simpa [SV.keysL] using hk
 | eltF y f => simp only [SV.cells, Option.some.injEq] at e; subst e; simpa [SV.keysL] using hk
 | rowE κ sz i => simp only [SV.cells, Option.some.injEq] at e; subst e; simpa [SV.keysL] using hk
 | tl κ sz i => simp only [SV.cells, Option.some.injEq] at e; subst e; simpa [SV.keysL] using hk
 | ptr κ off => simp only [SV.cells, Option.some.injEq] at e; subst e; simpa [SV.keysL] using hk
 | slc κ => simp only [SV.cells, Option.some.injEq] at e; subst e; simpa [SV.keysL] using hk
 | fn f caps => simp only [SV.cells, Option.some.injEq] at e; subst e; simpa [SV.keysL] using hk
 | glob g => simp only [SV.cells, Option.some.injEq] at e; subst e; simpa [SV.keysL] using hk
 | nilQ L => simp only [SV.cells, Option.some.injEq] at e; subst e; simpa [SV.keysL] using hk
theorem ofCells_keys {cs : List SV} {κ : Nat} (hk : κ ∈ (ofCells cs).keys) : κ ∈ SV.keysL cs := by
 unfold ofCells at hk
 split at hk
 ·simp [SV.keys] at hk
 ·simpa [SV.keys] using hk
theorem run_loadVar_agg {P : Program} {t : Nat} {ti : TI} (hT : TyOk P t ti) (ha : ti.agg = true) {w : World} {ad : Addr} {cs : List Value} (hl : cs.length = ti.sz) (hc : ∀ j u, cs[j]? = some u → w.cell? (ad.add j) = some u) :
  (loadVar t ad).run P w = .ok (.agg cs.toArray) w := by
 have h1 := run_loadCells_list (P := P) w ad cs hc
 unfold loadVar
 simp only [Sem.run_bind, hT.isAgg, Result.andThen_ok, ha, if_true, hT.size, ← hl, h1, Sem.run_pure]
theorem run_loadVar_one {P : Program} {t : Nat} {ti : TI} (hT : TyOk P t ti) (ha : ti.agg = false) {w : World} {ad : Addr} {u : Value} (hc : w.cell? ad = some u) :
  (loadVar t ad).run P w = .ok u w := by
 unfold loadVar
 simp [hT.isAgg, ha, hc]
end
end Go.Vc
namespace Go.Vc
open Go Go.RowKit
section
variable {C : Cx} {n : Nat} {F : Fm} {ok0 : Nat → Prop} {w0 : World} {ok : Nat → Prop} {β : Nat → Value} {s : S} {a : Act} {w : World}
theorem own_same {w w' : World} {base : Nat} {e : TypeId} {size m : Nat} {v : Value} {xs : List Value} (h : w.ownsRow base e size v m xs) (hb : ∀ b, v.ownBlock = some b → w'.heap[b]? = w.heap[b]?) : w'.ownsRow base e size v m xs := by
 obtain ⟨h1, h2⟩ := h
 refine ⟨h1, ?_⟩
 rcases h2 with h2 | ⟨g, cap, cur, rfl, hg, hh, r⟩
 ·exact .inl h2
 ·exact .inr ⟨g, cap, cur, rfl, hg, by rw [hb g rfl]; exact hh, r⟩
theorem RRow_stay {ok ok' : Nat → Prop} {w w' : World} (hok : ∀ b, ok b → ok' b) (hs : Stay ok w w') {sz : Nat} {L : List PV} {xs : List Value} (h : RRow ok w sz L xs) : RRow ok' w' sz L xs :=
 ⟨h.1, fun i x hx => by
  obtain ⟨c, h1, h2⟩ := h.2 i x hx
  exact ⟨c, RP_stay hok hs h1, h2⟩⟩
theorem ownBlock_blockOf {v : Value} {b : Nat} (h : v.ownBlock = some b) : blockOf v = some b := by
 cases v <;> simp_all [Value.ownBlock]
 rename_i a _ _
 cases a <;> simp_all [blockOf]
theorem OB_move {ok ok' : Nat → Prop} {β β' : Nat → Value} {w w' : World} {M : Nat → Prop} {κ : Nat} {o : AO} (h : OB C ok β w M κ o) (hβ : o.live = true → β' κ = β κ) (hk : ∀ κ' ∈ o.keys, β' κ' = β κ')
  (hok : ∀ b, ok b → ok' b) (hs : Stay ok w w') (hb : ∀ b, o.live = true → blockOf (β κ) = some b → b < w.heap.size → w'.heap[b]? = w.heap[b]?) (hn : ∀ b, o.live = true → blockOf (β κ) = some b → b < w.heap.size → ¬ ok b → ¬ ok' b) : OB C ok' β' w' M κ o := by
 cases o with
 | no => trivial
 | var own t x =>
  obtain ⟨b, v, h1, h2, h3, h4, h5, h6⟩ := h
  have hlt : b < w.heap.size := (Array.getElem?_eq_some_iff.1 h2).1
  have hbo : blockOf (β κ) = some b := by rw [h1]; rfl
  exact ⟨b, v, by rw [hβ rfl]; exact h1, by rw [hb b rfl hbo hlt]; exact h2, R_keys hk (R_stay hok hs h3), hn b rfl hbo hlt h4, h5, h6⟩
 | mp t sk L =>
  obtain ⟨r, es, clock, h1, h2, h3, h4, h5, h6, h7⟩ := h
  have hlt : r < w.heap.size := (Array.getElem?_eq_some_iff.1 h2).1
  have hbo : blockOf (β κ) = some r := by rw [h1]; rfl
  exact ⟨r, es, clock, by rw [hβ rfl]; exact h1, by rw [hb r rfl hbo hlt]; exact h2, hn r rfl hbo hlt h3, h4, h5, RPL_stay hok hs h6, h7⟩
 | fm t ks xs =>
  obtain ⟨r, es, clock, h1, h2, h3, h4, h5, h6, h7⟩ := h
  have hlt : r < w.heap.size := (Array.getElem?_eq_some_iff.1 h2).1
  have hbo : blockOf (β κ) = some r := by rw [h1]; rfl
  exact ⟨r, es, clock, by rw [hβ rfl]; exact h1, by rw [hb r rfl hbo hlt]; exact h2, hn r rfl hbo hlt h3, h4, h5, RL_keys hk (RL_stay hok hs h6), h7⟩
 | ms t sk L B c r =>
  obtain ⟨es, h1, h2, h3, h4, h5, h6, h7⟩ := h
  have hlt : r < w.heap.size := (Array.getElem?_eq_some_iff.1 h2).1
  have hbo : blockOf (β κ) = some r := by rw [h1]; rfl
  exact ⟨es, by rw [hβ rfl]; exact h1, by rw [hb r rfl hbo hlt]; exact h2, hn r rfl hbo hlt h3, h4, h5, RPL_stay hok hs h6, h7⟩
 | mi κ0 m since seen last =>
  obtain ⟨r, h1, h2, h3, h4⟩ := h
  have hlt : r < w.heap.size := (Array.getElem?_eq_some_iff.1 h2).1
  have hbo : blockOf (β κ) = some r := by rw [h1]; rfl
  exact ⟨r, by rw [hβ rfl]; exact h1, by rw [hb r rfl hbo hlt]; exact h2, hn r rfl hbo hlt h3, h4⟩
 | it l pos =>
  obtain ⟨r, h1, h2, h3, h4⟩ := h
  have hlt : r < w.heap.size := (Array.getElem?_eq_some_iff.1 h2).1
  have hbo : blockOf (β κ) = some r := by rw [h1]; rfl
  exact ⟨r, by rw [hβ rfl]; exact h1, by rw [hb r rfl hbo hlt]; exact h2, hn r rfl hbo hlt h3, h4⟩
 | rp t xs =>
  obtain ⟨⟨vs, h1, h2, h4, h5⟩, h3⟩ := h
  refine ⟨⟨vs, ?_, h2, h4, RL_keys hk (RL_stay hok hs h5)⟩, ?_⟩
  ·rw [hβ rfl]
   refine own_same h1 fun b hb' => hb b rfl (ownBlock_blockOf hb') (h1.lt b hb').2
  ·rw [hβ rfl]
   intro k hk'
   exact ⟨hn k rfl (ownBlock_blockOf hk') (h1.lt k hk').2 (h3 k hk').1, (h3 k hk').2⟩
 | row t sz L =>
  obtain ⟨h0, ⟨xs, h1, h2⟩, h3⟩ := h
  refine ⟨h0, ⟨xs, ?_, RRow_stay hok hs h2⟩, ?_⟩
  ·rw [hβ rfl]
   refine own_same h1 fun b hb' => hb b rfl (ownBlock_blockOf hb') (h1.lt b hb').2
  ·rw [hβ rfl]
   intro k hk'
   exact ⟨hn k rfl (ownBlock_blockOf hk') (h1.lt k hk').2 (h3 k hk').1, (h3 k hk').2⟩
theorem OB_lt {κ : Nat} {M : Nat → Prop} {o : AO} (h : OB C ok β w M κ o) (hl : o.live = true) {b : Nat} (hb : blockOf (β κ) = some b) : b < w.heap.size := by
 cases o with
 | no => simp [AO.live] at hl
 | var own t x =>
  obtain ⟨b', v, h1, h2, _⟩ := h
  rw [h1] at hb
  have : b' = b := by simpa [blockOf] using hb
  subst this
  exact (Array.getElem?_eq_some_iff.1 h2).1
 | mp t sk L =>
  obtain ⟨r, es, clock, h1, h2, _⟩ := h
  rw [h1] at hb
  have : r = b := by simpa [blockOf] using hb
  subst this
  exact (Array.getElem?_eq_some_iff.1 h2).1
 | fm t ks xs =>
  obtain ⟨r, es, clock, h1, h2, _⟩ := h
  rw [h1] at hb
  have : r = b := by simpa [blockOf] using hb
  subst this
  exact (Array.getElem?_eq_some_iff.1 h2).1
 | ms t sk L B c r =>
  obtain ⟨es, h1, h2, _⟩ := h
  rw [h1] at hb
  have : r = b := by simpa [blockOf] using hb
  subst this
  exact (Array.getElem?_eq_some_iff.1 h2).1
 | mi κ0 m since seen last =>
  obtain ⟨r, h1, h2, _⟩ := h
  rw [h1] at hb
  have : r = b := by simpa [blockOf] using hb
  subst this
  exact (Array.getElem?_eq_some_iff.1 h2).1
 | it l pos =>
  obtain ⟨r, h1, h2, _⟩ := h
  rw [h1] at hb
  have : r = b := by simpa [blockOf] using hb
  subst this
  exact (Array.getElem?_eq_some_iff.1 h2).1
 | rp t xs =>
  obtain ⟨⟨vs, h1, _⟩, _⟩ := h
  have hs : ∃ A m c, β κ = .slice A m c := by
   rcases h1.2 with ⟨h1, _⟩ | ⟨g, cap, cur, h1, _⟩
   ·exact ⟨_, _, _, h1⟩
   ·exact ⟨_, _, _, h1⟩
  obtain ⟨A, m, c, e⟩ := hs
  refine (h1.lt b ?_).2
  rw [e] at hb ⊢
  cases A with
  | none => simp [blockOf] at hb
  | some ad => simpa [blockOf, Value.ownBlock] using hb
 | row t sz L =>
  obtain ⟨_, ⟨xs, h1, _⟩, _⟩ := h
  have hs : ∃ A m c, β κ = .slice A m c := by
   rcases h1.2 with ⟨h1, _⟩ | ⟨g, cap, cur, h1, _⟩
   ·exact ⟨_, _, _, h1⟩
   ·exact ⟨_, _, _, h1⟩
  obtain ⟨A, m, c, e⟩ := hs
  refine (h1.lt b ?_).2
  rw [e] at hb ⊢
  cases A with
  | none => simp [blockOf] at hb
  | some ad => simpa [blockOf, Value.ownBlock] using hb
theorem mine_live {o : AO} (h : o.mine = true) : o.live = true := by cases o <;> simp_all [AO.mine, AO.live]
theorem GX_stay {ok ok' : Nat → Prop} {w w' : World} (hC : CxOk C) (h : GX C ok w) (hs : Stay ok w w') (hlt : ∀ b, ok b → b < w.heap.size) (hok : ∀ b, ok b → ok' b) : GX C ok' w' :=
 ⟨hC.x ok ok' w w' h.1 hok hs hlt, fun g L hg => by
  obtain ⟨sz, h2⟩ := h.2 g L hg
  exact ⟨sz, RPE_stay hok hs h2⟩⟩
theorem Keep.refl (F : Fm) (w : World) : Keep F w w := ⟨rfl, rfl, rfl, Nat.le_refl _, fun _ _ _ => rfl⟩
theorem Keep.step {F : Fm} {w0 w w' : World} (h : Keep F w0 w) (h1 : w'.os = w.os) (h2 : w'.tape = w.tape) (h3 : w'.output = w.output) (h4 : w.heap.size ≤ w'.heap.size)
  (h5 : ∀ b, b < w.heap.size → ¬ may F w0 b → w'.heap[b]? = w.heap[b]?) : Keep F w0 w' :=
 ⟨h1.trans h.os, h2.trans h.tape, h3.trans h.output, Nat.le_trans h.size h4, fun b hb hm => (h5 b (Nat.lt_of_lt_of_le hb h.size) (fun hc => by
  rcases hc with hc | hc
  ·exact hm hc
  ·omega)).trans (h.block b hb hm)⟩
theorem Keep.grown {F : Fm} {w0 w w' : World} {row : Option Nat} (h : Keep F w0 w) (hg : w.grownBy w' row) (hr : ∀ k, row = some k → may F w0 k) : Keep F w0 w' :=
 h.step hg.os hg.tape hg.output hg.size fun b hb hm => hg.block b hb fun e => hm (hr b e.symm)
theorem below_w {F : Fm} {w0 w w' : World} (h : Keep F w0 w) (hb : Below w.heap.size w w') : Keep F w0 w' := h.step hb.os hb.tape hb.output hb.size fun b hlt _ => hb.block b hlt
theorem StO.alloc (hC : CxOk C) (h : StO C n F ok0 w0 ok β s a w) {d : Nat} (hd : d < n) (hno : s.η d = .no) {t : Nat} {y : SV} {v : Value} (hr : R ok β w y v) (h1 : ∀ u ∈ v.cells.toList, one u)
  (ht : ∀ ti, C.T t = some ti → v.cells.size = ti.sz ∧ (ti.agg = true → v = .agg v.cells) ∧ (ti.agg = false → one v)) (hk : ∀ κ ∈ y.keys, (s.η κ).live = true) :
  StO C n F ok0 w0 ok (fun k => if k = d then .pointer (some ⟨w.heap.size, 0, none⟩) else β k) ((s.set d (.var true t y)).put d (.ptr d 0)) (a.put (some d) (.pointer (some ⟨w.heap.size, 0, none⟩))) (w.alloc (.cells v.cells t)) := by
 have hb : Below w.heap.size w (w.alloc (.cells v.cells t)) := (Below.refl _ _).alloc (Nat.le_refl _) _
 have hst : Stay ok w (w.alloc (.cells v.cells t)) := fun b _ hlt => hb.block b hlt
 have hkd : ∀ x : SV, (∀ κ ∈ x.keys, (s.η κ).live = true) → ∀ κ ∈ x.keys, (if κ = d then Value.pointer (some ⟨w.heap.size, 0, none⟩) else β κ) = β κ := by
  intro x hx κ hκ
  have := hx κ hκ
  rw [if_neg]
  rintro rfl
  rw [hno] at this
  simp [AO.live] at this
 have hkd2 : ∀ κ, (s.η κ).live = true → κ ≠ d := by
  rintro κ hl rfl
  rw [hno] at hl
  simp [AO.live] at hl
 refine
  {lt := fun b hb' => by have := h.lt b hb'; simp; omega
   new := h.new
   old := h.old
   gx := GX_stay hC h.gx hst h.lt fun _ h => h
   defers := h.defers
   size := by simp [Act.put, h.size]
   ρ := ?_
   η := ?_
   ro := ?_
   dis := ?_
   wf := ?_
   below := below_w h.below hb
   n2 := h.n2
   pin := fun κ hκ => by show (if κ = d then _ else β κ) = _; have := h.n2; rw [if_neg (by omega)]; exact h.pin κ hκ }
 ·intro t'
  rw [S.put_ρ, eval_put (by rw [h.size]; exact hd)]
  by_cases e : t' = d
  ·rw [if_pos e, if_pos e, R]
   exact ⟨w.heap.size, if_pos rfl, rfl⟩
  ·rw [if_neg e, if_neg e]
   exact R_keys (hkd _ (h.wf.ρ t')) (R_stay (fun _ h => h) hst (h.ρ t'))
 ·intro κ
  show OB C ok _ _ _ κ ((s.set d _).η κ)
  rw [S.set_η]
  by_cases e : κ = d
  ·rw [if_pos e]
   subst e
   refine ⟨w.heap.size, v, if_pos rfl, ?_, R_keys (hkd _ hk) (R_stay (fun _ h => h) hst hr), fun hc => ?_, fun _ => .inr h.below.size, h1, ht⟩
   ·exact heap_alloc_new w _
   ·have := h.lt _ hc; omega
  ·rw [if_neg e]
   refine OB_move (h.η κ) (fun _ => if_neg e) (fun κ' hκ' => if_neg (hkd2 κ' (h.wf.η κ κ' hκ'))) (fun _ h => h) hst (fun b _ _ hlt => hb.block b hlt) (fun b _ _ _ hn => hn)
 ·intro κ t' x b hη hbk
  change (s.set d _).η κ = _ at hη
  rw [S.set_η] at hη
  by_cases e : κ = d
  ·rw [if_pos e] at hη; injection hη with hη; cases hη
  ·rw [if_neg e] at hη
   rw [if_neg e] at hbk
   exact h.ro κ t' x b hη hbk
 ·intro κ κ' b hm hm' hbk hbk'
  change ((s.set d _).η κ).mine = true at hm
  change ((s.set d _).η κ').mine = true at hm'
  rw [S.set_η] at hm hm'
  by_cases e : κ = d <;> by_cases e' : κ' = d
  ·rw [e, e']
  ·rw [if_pos e] at hbk
   rw [if_neg e'] at hbk' hm'
   have h1 := OB_lt (h.η κ') (mine_live hm') hbk'
   simp [blockOf] at hbk
   omega
  ·rw [if_pos e'] at hbk'
   rw [if_neg e] at hbk hm
   have h1 := OB_lt (h.η κ) (mine_live hm) hbk
   simp [blockOf] at hbk'
   omega
  ·rw [if_neg e] at hbk hm
   rw [if_neg e'] at hbk' hm'
   exact h.dis κ κ' b hm hm' hbk hbk'
 ·have hl : ∀ κ, (s.η κ).live = true → ((s.set d (.var true t y)).η κ).live = true := by
   intro κ hκ
   rw [S.set_η, if_neg (hkd2 κ hκ)]
   exact hκ
  refine WF.put ⟨fun t' κ hκ => hl κ (h.wf.ρ t' κ hκ), fun t' κ hκ => ?_⟩ ?_
  ·rw [S.set_η] at hκ
   split at hκ
   ·exact hl κ (hk κ hκ)
   ·exact hl κ (h.wf.η t' κ hκ)
  ·intro κ hκ
   simp [SV.keys] at hκ
   subst hκ
   rw [S.set_η, if_pos rfl]
   rfl
end
end Go.Vc
