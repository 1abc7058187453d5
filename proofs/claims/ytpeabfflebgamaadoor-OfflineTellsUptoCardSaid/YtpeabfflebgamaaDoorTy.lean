/- The types of the program; what a plain term is in memory. -/
import Derived.Test.YtpeabfflebgamaaDoorVcj
import Derived.Test.YtpeabfflebgamaaDoorTm
import Derived.Test.YtpeabfflebgamaaDoorProg
import Derived.KernelRfl
import Derived.Lib.LaidTab
import Derived.Lib.SmallJoins
import Derived.Lib.ItoaNum
set_option linter.unusedVariables false
namespace Go.Sl
open Go Go.Vc Go.Proofs

def tiInt : TI := { k := 5, agg := false, sz := 1, bytes := 8, zero := .int .i64 0, flds := [], elem := 0, alen := 0 }
def tiU8 : TI := { k := 5, agg := false, sz := 1, bytes := 1, zero := .int .u8 0, flds := [], elem := 0, alen := 0 }
def tiBool : TI := { k := 6, agg := false, sz := 1, bytes := 1, zero := .bool false, flds := [], elem := 0, alen := 0 }
def tiStr : TI := { k := 4, agg := false, sz := 1, bytes := 16, zero := .str [], flds := [], elem := 0, alen := 0 }
def tiBytes : TI := { k := 2, agg := false, sz := 1, bytes := 24, zero := .nilS, flds := [], elem := 5, alen := 0 }
def tiTerms : TI := { k := 2, agg := false, sz := 1, bytes := 24, zero := .nilS, flds := [], elem := 24, alen := 0 }
def tiRows : TI := { k := 2, agg := false, sz := 1, bytes := 24, zero := .nilS, flds := [], elem := 22, alen := 0 }
def tiTerm : TI := { k := 1, agg := true, sz := 3, bytes := 48, zero := .agg [.int .i64 0, .str [], .nilS], flds := [(0, 1), (1, 1), (2, 1)], elem := 0, alen := 0 }
def tiStrs : TI := { k := 2, agg := false, sz := 1, bytes := 24, zero := .nilS, flds := [], elem := 9, alen := 0 }
def tiKind : TI := { k := 1, agg := true, sz := 3, bytes := 32, zero := .agg [.str [], .int .i64 0, .bool false], flds := [(0, 1), (1, 1), (2, 1)], elem := 0, alen := 0 }
def tiKinds : TI := { k := 3, agg := true, sz := 33, bytes := 352, zero := .agg (List.replicate 11 [PV.str [], .int .i64 0, .bool false]).flatten, flds := [], elem := 67, alen := 11 }
def tiMapS : TI := { k := 7, agg := false, sz := 1, bytes := 8, zero := .exact (.map none), flds := [], elem := 4, alen := 0 }
def tiMapW : TI := { k := 8, agg := false, sz := 1, bytes := 8, zero := .exact (.map none), flds := [], elem := 56, alen := 0 }
def tiWay : TI := { k := 1, agg := true, sz := 2, bytes := 16, zero := .agg [.exact .nilFunc, .exact .nilFunc], flds := [(0, 1), (1, 1)], elem := 0, alen := 0 }
def tiKnown : TI := { k := 1, agg := true, sz := 3, bytes := 40, zero := .agg [.nilS, .exact (.map none), .exact (.map none)], flds := [(0, 1), (1, 1), (2, 1)], elem := 0, alen := 0 }
def tiPKnown : TI := { k := 9, agg := false, sz := 1, bytes := 8, zero := .exact (.pointer none), flds := [], elem := 0, alen := 0 }
def tiFnB : TI := { k := 10, agg := false, sz := 1, bytes := 8, zero := .exact .nilFunc, flds := [], elem := 0, alen := 0 }
def tiFn : TI := { k := 0, agg := false, sz := 1, bytes := 8, zero := .exact .nilFunc, flds := [], elem := 0, alen := 0 }
def tiUint : TI := { k := 5, agg := false, sz := 1, bytes := 8, zero := .int .u64 0, flds := [], elem := 0, alen := 0 }
def tiViews : TI := { k := 1, agg := true, sz := 3, bytes := 24, zero := .agg [.exact (.pointer none), .exact (.pointer none), .exact (.map none)], flds := [(0, 1), (1, 1), (2, 1)], elem := 0, alen := 0 }
def tiMapF : TI := { k := 8, agg := false, sz := 1, bytes := 8, zero := .exact (.map none), flds := [], elem := 27, alen := 0 }
noncomputable def T (t : Nat) : Option TI :=
  cond (Nat.beq t 3) (some tiInt) <|
  cond (Nat.beq t 4) (some tiBool) <|
  cond (Nat.beq t 5) (some tiU8) <|
  cond (Nat.beq t 9) (some tiStr) <|
  cond (Nat.beq t 22) (some tiTerms) <|
  cond (Nat.beq t 24) (some tiTerm) <|
  cond (Nat.beq t 73) (some tiRows) <|
  cond (Nat.beq t 80) (some tiBytes) <|
  cond (Nat.beq t 71) (some tiStrs) <|
  cond (Nat.beq t 67) (some tiKind) <|
  cond (Nat.beq t 68) (some tiKinds) <|
  cond (Nat.beq t 37) (some tiMapS) <|
  cond (Nat.beq t 53) (some tiMapW) <|
  cond (Nat.beq t 56) (some tiWay) <|
  cond (Nat.beq t 39) (some tiKnown) <|
  cond (Nat.beq t 40) (some tiPKnown) <|
  cond (Nat.beq t 43) (some tiFn) <|
  cond (Nat.beq t 106) (some tiUint) <|
  cond (Nat.beq t 47) (some tiViews) <|
  cond (Nat.beq t 49) (some tiMapF) <|
  cond (Nat.beq t 27) (some tiFnB) <|
  cond (Nat.beq t 74) (some tiFn) <|
  none
theorem ite_some {t n : Nat} {ti x : TI} {r : Option TI} (h : (if t = n then some x else r) = some ti) : (t = n ∧ some x = some ti) ∨ r = some ti := by
  split at h
  · exact .inl ⟨by assumption, h⟩
  · exact .inr h
theorem T_ok (t : Nat) (ti : TI) (h : T t = some ti) : TyOk Tryd.prog t ti := by
  simp only [T, beq_ite] at h
  rcases ite_some h with ⟨e, h⟩ | h; · { subst e; cases h; exact TyOk.of (z := .int .i64 0) (d := .int .i64) (by kernel_rfl) Tryd.underlying3 rfl rfl ⟨rfl, rfl, rfl⟩ (fun _ => rfl) (by intro h; cases h) }
  rcases ite_some h with ⟨e, h⟩ | h; · { subst e; cases h; exact TyOk.of (z := .bool false) (d := .bool) (by kernel_rfl) Tryd.underlying4 rfl rfl ⟨rfl, rfl⟩ (fun _ => rfl) (by intro h; cases h) }
  rcases ite_some h with ⟨e, h⟩ | h; · { subst e; cases h; exact TyOk.of (z := .int .u8 0) (d := .int .u8) (by kernel_rfl) Tryd.underlying5 rfl rfl ⟨rfl, rfl, rfl⟩ (fun _ => rfl) (by intro h; cases h) }
  rcases ite_some h with ⟨e, h⟩ | h; · { subst e; cases h; exact TyOk.of (z := .string ⟨#[]⟩) (d := .string) (by kernel_rfl) Tryd.underlying9 rfl rfl ⟨rfl, rfl⟩ (fun _ => rfl) (by intro h; cases h) }
  rcases ite_some h with ⟨e, h⟩ | h; · { subst e; cases h; exact TyOk.of (z := .slice none 0 0) (d := .slice 24) (by kernel_rfl) Tryd.underlying22 rfl rfl ⟨rfl, rfl, rfl⟩ (fun _ => rfl) (by intro h; cases h) }
  rcases ite_some h with ⟨e, h⟩ | h; · { subst e; cases h; exact TyOk.of (z := .agg #[.int .i64 0, .string ⟨#[]⟩, .slice none 0 0]) (by kernel_rfl) Tryd.underlying24 rfl rfl ⟨rfl, rfl, by kernel_rfl, by kernel_rfl⟩ (by intro h; cases h) (fun _ => rfl) }
  rcases ite_some h with ⟨e, h⟩ | h; · { subst e; cases h; exact TyOk.of (z := .slice none 0 0) (d := .slice 22) (by kernel_rfl) Tryd.underlying73 rfl rfl ⟨rfl, rfl, rfl⟩ (fun _ => rfl) (by intro h; cases h) }
  rcases ite_some h with ⟨e, h⟩ | h; · { subst e; cases h; exact TyOk.of (z := .slice none 0 0) (d := .slice 5) (by kernel_rfl) Tryd.underlying80 rfl rfl ⟨rfl, rfl, rfl⟩ (fun _ => rfl) (by intro h; cases h) }
  rcases ite_some h with ⟨e, h⟩ | h; · { subst e; cases h; exact TyOk.of (z := .slice none 0 0) (d := .slice 9) (by kernel_rfl) Tryd.underlying71 rfl rfl ⟨rfl, rfl, rfl⟩ (fun _ => rfl) (by intro h; cases h) }
  rcases ite_some h with ⟨e, h⟩ | h; · { subst e; cases h; exact TyOk.of (z := .agg #[.string ⟨#[]⟩, .int .i64 0, .bool false]) (by kernel_rfl) Tryd.underlying67 rfl rfl ⟨rfl, rfl, by kernel_rfl, by kernel_rfl⟩ (by intro h; cases h) (fun _ => rfl) }
  rcases ite_some h with ⟨e, h⟩ | h; · { subst e; cases h; exact TyOk.of (z := .agg (List.replicate 11 [Value.string ⟨#[]⟩, .int .i64 0, .bool false]).flatten.toArray) (d := .array 11 67) (by kernel_rfl) Tryd.underlying68 rfl rfl ⟨rfl, rfl, rfl, rfl⟩ (by intro h; cases h) (fun _ => rfl) }
  rcases ite_some h with ⟨e, h⟩ | h; · { subst e; cases h; exact TyOk.of (z := .map none) (by kernel_rfl) Tryd.underlying37 rfl rfl ⟨rfl, rfl, .inl ⟨rfl, Tryd.underlying9⟩⟩ (fun _ => rfl) (by intro h; cases h) }
  rcases ite_some h with ⟨e, h⟩ | h; · { subst e; cases h; exact TyOk.of (z := .map none) (by kernel_rfl) Tryd.underlying53 rfl rfl ⟨rfl, rfl, .inr ⟨rfl, Tryd.underlying3⟩⟩ (fun _ => rfl) (by intro h; cases h) }
  rcases ite_some h with ⟨e, h⟩ | h; · { subst e; cases h; exact TyOk.of (z := .agg #[.nilFunc, .nilFunc]) (by kernel_rfl) Tryd.underlying56 rfl rfl ⟨rfl, rfl, by kernel_rfl, by kernel_rfl⟩ (by intro h; cases h) (fun _ => rfl) }
  rcases ite_some h with ⟨e, h⟩ | h; · { subst e; cases h; exact TyOk.of (z := .agg #[.slice none 0 0, .map none, .map none]) (by kernel_rfl) Tryd.underlying39 rfl rfl ⟨rfl, rfl, by kernel_rfl, by kernel_rfl⟩ (by intro h; cases h) (fun _ => rfl) }
  rcases ite_some h with ⟨e, h⟩ | h; · { subst e; cases h; exact TyOk.of (z := .pointer none) (by kernel_rfl) Tryd.underlying40 rfl rfl ⟨.inr rfl, rfl⟩ (fun _ => rfl) (by intro h; cases h) }
  rcases ite_some h with ⟨e, h⟩ | h; · { subst e; cases h; exact TyOk.of (z := .nilFunc) (by kernel_rfl) Tryd.underlying43 rfl rfl ⟨.inl rfl, rfl⟩ (fun _ => rfl) (by intro h; cases h) }
  rcases ite_some h with ⟨e, h⟩ | h; · { subst e; cases h; exact TyOk.of (z := .int .u64 0) (d := .int .u64) (by kernel_rfl) Tryd.underlying106 rfl rfl ⟨rfl, rfl, rfl⟩ (fun _ => rfl) (by intro h; cases h) }
  rcases ite_some h with ⟨e, h⟩ | h; · { subst e; cases h; exact TyOk.of (z := .agg #[.pointer none, .pointer none, .map none]) (by kernel_rfl) Tryd.underlying47 rfl rfl ⟨rfl, rfl, by kernel_rfl, by kernel_rfl⟩ (by intro h; cases h) (fun _ => rfl) }
  rcases ite_some h with ⟨e, h⟩ | h; · { subst e; cases h; exact TyOk.of (z := .map none) (by kernel_rfl) Tryd.underlying49 rfl rfl ⟨rfl, rfl, .inr ⟨rfl, Tryd.underlying3⟩⟩ (fun _ => rfl) (by intro h; cases h) }
  rcases ite_some h with ⟨e, h⟩ | h; · { subst e; cases h; exact TyOk.of (z := .nilFunc) (by kernel_rfl) Tryd.underlying27 rfl rfl ⟨.inr rfl, rfl⟩ (fun _ => rfl) (by intro h; cases h) }
  rcases ite_some h with ⟨e, h⟩ | h; · { subst e; cases h; exact TyOk.of (z := .nilFunc) (by kernel_rfl) Tryd.underlying74 rfl rfl ⟨.inl rfl, rfl⟩ (fun _ => rfl) (by intro h; cases h) }
  cases h
/-- The library's table holds what it must. -/
def X10 (w : World) : Prop := Lib.TabIs Tryd.prog w "internal/strconv.uint64pow10" .u64 Lib.pow10Tab
theorem gX10 : Tryd.prog.globalNamed "internal/strconv.uint64pow10" = some 1 := by kernel_rfl
theorem X10_stay {w w' : World} (h : X10 w) (hb : w'.heap[1]? = w.heap[1]?) : X10 w' := by
  have h : w.var? Tryd.prog "internal/strconv.uint64pow10" = _ := h
  show w'.var? Tryd.prog "internal/strconv.uint64pow10" = _
  rw [← h]
  unfold World.var?
  rw [gX10]
  simp only [Option.bind_some, hb]
theorem X10_lt {w : World} (h : X10 w) : 1 < w.heap.size := by
  have h : w.var? Tryd.prog "internal/strconv.uint64pow10" = _ := h
  unfold World.var? at h
  rw [gX10] at h
  simp only [Option.bind_some] at h
  cases e : w.heap[1]? with
  | none => rw [e] at h; cases h
  | some o => exact (Array.getElem?_eq_some_iff.1 e).1
/-- What holds of the package's variables: the table, and that nobody writes to it. -/
def XX (ok : Nat → Prop) (w : World) : Prop := X10 w ∧ ok 1
def kd (l : List UInt8) (n : Int) (b : Bool) : PV := .agg [.str l, .int .i64 n, .bool b]
def kindsL : List PV := [kd [] 0 false, kd [100] 0 true, kd [97] 0 true, kd [112] (-1) false, kd [101] 2 false, kd [109] 2 false, kd [104] 1 false, kd [107] 1 true, kd [117] 1 false, kd [115] 2 false, kd [120] 2 false]
/-- With the table of kinds, or without it. -/
noncomputable def cx (b : Bool) : Cx := { P := Tryd.prog, T := T, tab := fun g => cond b (cond (Nat.beq g 0) (some kindsL) none) none, X := XX }
theorem cx_ok (b : Bool) : CxOk (cx b) :=
  ⟨T_ok, fun ok ok' w w' h hok hs hlt => ⟨X10_stay h.1 (hs _ h.2 (hlt _ h.2)), hok _ h.2⟩⟩
theorem mixed (b : Bool) : (cx b).P.follows .mixedOrders = true := by kernel_rfl

/-! ### Plain terms in memory -/
mutual
def tmv : Tm → PV
  | .mk k n l => .agg [.int .i64 k, .str n, .lst (tmvs l)]
def tmvs : List Tm → List PV
  | [] => []
  | t :: ts => tmv t :: tmvs ts
end
/-- The same, told so that what is known of its form shows. -/
def TV (t : Tm) : PV := .agg [.int .i64 t.kind, .str t.name, .lst (tmvs t.kids)]
theorem tmv_TV (t : Tm) : tmv t = TV t := by cases t; rfl
theorem tmvs_eq (l : List Tm) : tmvs l = l.map TV := by
  induction l with
  | nil => rfl
  | cons t l ih => simp [tmvs, ih, tmv_TV]
theorem tmvs_length (l : List Tm) : (tmvs l).length = l.length := by rw [tmvs_eq, List.length_map]
theorem tmvs_get {l : List Tm} {i : Nat} (h : i < l.length) : (tmvs l)[i]? = some (TV l[i]) := by rw [tmvs_eq, List.getElem?_map, List.getElem?_eq_getElem h]; rfl
theorem tmvs_getN {l : List Tm} {i : Nat} (h : i < l.length) : (tmvs l)[((i : Nat) : Int).toNat]? = some (TV l[i]) := tmvs_get h
theorem tmvs_sz (l : List Tm) : allSz (true, 3) (tmvs l) := by
  induction l with
  | nil => trivial
  | cons t l ih => exact ⟨by rw [tmv_TV]; rfl, ih⟩
theorem tmvs_append (l l' : List Tm) : tmvs (l ++ l') = tmvs l ++ tmvs l' := by simp [tmvs_eq]
theorem tmvs1 (a : Tm) : [TV a] = tmvs [a] := (tmvs_eq [a]).symm
theorem tmvs2 (a b : Tm) : [TV a, TV b] = tmvs [a, b] := (tmvs_eq [a, b]).symm
theorem tmvs3 (a b c : Tm) : [TV a, TV b, TV c] = tmvs [a, b, c] := (tmvs_eq [a, b, c]).symm
/-- A struct without kids. -/
theorem LE_leaf (k : Int) (n : Bs) : LEP (.agg [.int .i64 k, .str n, .nilS]) (TV (.mk k n [])) := by
  intro ok w v h
  simp only [TV, tmvs, Tm.kind, Tm.name, Tm.kids]
  rw [RP] at h ⊢
  obtain ⟨vs, h1, h2, h3⟩ := h
  refine ⟨vs, h1, h2, ?_⟩
  match vs, h3 with
  | [a, b, c], h3 =>
    refine ⟨h3.1, h3.2.1, ?_, trivial⟩
    have := h3.2.2.1
    rw [RP] at this
    rw [RP, this]
    exact ⟨none, 0, 0, rfl, Nat.le_refl _, by simp [maxLen], trivial⟩
/-- No row in it is longer than any can be. -/
inductive Fit : Tm → Prop where
  | mk {k : Int} {n : Bs} {l : List Tm} : l.length ≤ 9223372036854775807 → n.length ≤ 9223372036854775807 → (∀ t ∈ l, Fit t) → Fit (.mk k n l)
theorem Fit.len {t : Tm} (h : Fit t) : t.kids.length ≤ 9223372036854775807 := by cases h; assumption
theorem Fit.nlen {t : Tm} (h : Fit t) : t.name.length ≤ 9223372036854775807 := by cases h; assumption
theorem Fit.kid {t u : Tm} (h : Fit t) (hu : u ∈ t.kids) : Fit u := by cases h; rename_i h; exact h u hu
theorem Tm.indk {P : Tm → Prop} (h : ∀ t, (∀ u ∈ t.kids, P u) → P t) (t : Tm) : P t := Tm.ind (fun k n l ih => h (.mk k n l) ih) t
end Go.Sl
