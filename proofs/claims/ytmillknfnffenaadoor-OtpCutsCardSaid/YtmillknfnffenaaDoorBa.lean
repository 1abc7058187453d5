/- The types of the program, as far as the codes, the macs and the sums reach. -/
import Derived.Test.YtmillknfnffenaaDoorVcj
import Derived.Test.YtmillknfnffenaaDoorProg
import Derived.Test.YtmillknfnffenaaDoorSh
import Derived.KernelRfl
import Derived.Lib.LaidTab
import Derived.Lib.ItoaNum
set_option linter.unusedVariables false
namespace Go.So
open Go Go.Vc Go.Proofs

def tiInt : TI := { k := 5, agg := false, sz := 1, bytes := 8, zero := .int .i64 0, flds := [], elem := 0, alen := 0 }
def tiBool : TI := { k := 6, agg := false, sz := 1, bytes := 1, zero := .bool false, flds := [], elem := 0, alen := 0 }
def tiU8 : TI := { k := 5, agg := false, sz := 1, bytes := 1, zero := .int .u8 0, flds := [], elem := 0, alen := 0 }
def tiStr : TI := { k := 4, agg := false, sz := 1, bytes := 16, zero := .str [], flds := [], elem := 0, alen := 0 }
def tiI32 : TI := { k := 5, agg := false, sz := 1, bytes := 4, zero := .int .i32 0, flds := [], elem := 0, alen := 0 }
def tiBytes : TI := { k := 2, agg := false, sz := 1, bytes := 24, zero := .nilS, flds := [], elem := 5, alen := 0 }
def tiErr : TI := { k := 5, agg := false, sz := 1, bytes := 8, zero := .int .i64 0, flds := [], elem := 0, alen := 0 }
def tiUint : TI := { k := 5, agg := false, sz := 1, bytes := 8, zero := .int .u64 0, flds := [], elem := 0, alen := 0 }
def tiU32 : TI := { k := 5, agg := false, sz := 1, bytes := 4, zero := .int .u32 0, flds := [], elem := 0, alen := 0 }
def tiU64 : TI := { k := 5, agg := false, sz := 1, bytes := 8, zero := .int .u64 0, flds := [], elem := 0, alen := 0 }
def tiInts : TI := { k := 2, agg := false, sz := 1, bytes := 24, zero := .nilS, flds := [], elem := 3, alen := 0 }
def tiB20 : TI := { k := 3, agg := true, sz := 20, bytes := 20, zero := .agg (List.replicate 20 (.int .u8 0)), flds := [], elem := 5, alen := 20 }
def tiB8 : TI := { k := 3, agg := true, sz := 8, bytes := 8, zero := .agg (List.replicate 8 (.int .u8 0)), flds := [], elem := 5, alen := 8 }
def tiI3 : TI := { k := 3, agg := true, sz := 3, bytes := 24, zero := .agg (List.replicate 3 (.int .i64 0)), flds := [], elem := 3, alen := 3 }
def tiW5 : TI := { k := 3, agg := true, sz := 5, bytes := 20, zero := .agg (List.replicate 5 (.int .u32 0)), flds := [], elem := 69, alen := 5 }
def tiW80 : TI := { k := 3, agg := true, sz := 80, bytes := 320, zero := .agg (List.replicate 80 (.int .u32 0)), flds := [], elem := 69, alen := 80 }
def tiHash : TI := { k := 1, agg := true, sz := 7, bytes := 56, zero := .agg [.int .u32 0, .int .u32 0, .int .u32 0, .int .u32 0, .int .u32 0, .nilS, .int .u64 0], flds := [(0, 5), (5, 1), (6, 1)], elem := 0, alen := 0 }
def tiPHash : TI := { k := 9, agg := false, sz := 1, bytes := 8, zero := .exact (.pointer none), flds := [], elem := 0, alen := 0 }
noncomputable def T (t : Nat) : Option TI :=
  cond (Nat.beq t 3) (some tiInt) <|
  cond (Nat.beq t 4) (some tiBool) <|
  cond (Nat.beq t 5) (some tiU8) <|
  cond (Nat.beq t 9) (some tiStr) <|
  cond (Nat.beq t 21) (some tiI32) <|
  cond (Nat.beq t 22) (some tiBytes) <|
  cond (Nat.beq t 24) (some tiErr) <|
  cond (Nat.beq t 47) (some tiUint) <|
  cond (Nat.beq t 69) (some tiU32) <|
  cond (Nat.beq t 71) (some tiU64) <|
  cond (Nat.beq t 33) (some tiInts) <|
  cond (Nat.beq t 28) (some tiB20) <|
  cond (Nat.beq t 44) (some tiB8) <|
  cond (Nat.beq t 55) (some tiI3) <|
  cond (Nat.beq t 70) (some tiW5) <|
  cond (Nat.beq t 80) (some tiW80) <|
  cond (Nat.beq t 73) (some tiHash) <|
  cond (Nat.beq t 51) (some tiPHash) <|
  none
theorem ite_some {t n : Nat} {ti x : TI} {r : Option TI} (h : (if t = n then some x else r) = some ti) : (t = n ∧ some x = some ti) ∨ r = some ti := by
  split at h
  · exact .inl ⟨by assumption, h⟩
  · exact .inr h
theorem T_ok (t : Nat) (ti : TI) (h : T t = some ti) : TyOk Tryd.prog t ti := by
  simp only [T, beq_ite] at h
  rcases ite_some h with ⟨e, h⟩ | h; · { subst e; cases h; exact TyOk.of (z := .int .i64 0) (d := .int .i64) (by kernel_rfl) Tryd.underlying3 rfl rfl ⟨rfl, rfl, rfl⟩ (fun _ => rfl) (by intro h; cases h) }
  rcases ite_some h with ⟨e, h⟩ | h; · { subst e; cases h; exact TyOk.of (z := .bool false) (d := .bool) (by kernel_rfl) Tryd.underlying4 rfl rfl ⟨rfl, rfl⟩ (fun _ => rfl) (by intro h; cases h) }
  rcases ite_some h with ⟨e, h⟩ | h; · { subst e; cases h; exact TyOk.of (z := .int .u8 0) (d := .int .u8) (by kernel_rfl) Tryd.underlying5 rfl rfl ⟨rfl, rfl, rfl⟩ (fun _ => rfl) (by intro h; cases h) }
  rcases ite_some h with ⟨e, h⟩ | h; · { subst e; cases h; exact TyOk.of (z := .string ⟨#[]⟩) (d := .string) (by kernel_rfl) Tryd.underlying9 rfl rfl ⟨rfl, rfl⟩ (fun _ => rfl) (by intro h; cases h) }
  rcases ite_some h with ⟨e, h⟩ | h; · { subst e; cases h; exact TyOk.of (z := .int .i32 0) (d := .int .i32) (by kernel_rfl) Tryd.underlying21 rfl rfl ⟨rfl, rfl, rfl⟩ (fun _ => rfl) (by intro h; cases h) }
  rcases ite_some h with ⟨e, h⟩ | h; · { subst e; cases h; exact TyOk.of (z := .slice none 0 0) (d := .slice 5) (by kernel_rfl) Tryd.underlying22 rfl rfl ⟨rfl, rfl, rfl⟩ (fun _ => rfl) (by intro h; cases h) }
  rcases ite_some h with ⟨e, h⟩ | h; · { subst e; cases h; exact TyOk.of (z := .int .i64 0) (d := .int .i64) (by kernel_rfl) Tryd.underlying24 rfl rfl ⟨rfl, rfl, rfl⟩ (fun _ => rfl) (by intro h; cases h) }
  rcases ite_some h with ⟨e, h⟩ | h; · { subst e; cases h; exact TyOk.of (z := .int .u64 0) (d := .int .u64) (by kernel_rfl) Tryd.underlying47 rfl rfl ⟨rfl, rfl, rfl⟩ (fun _ => rfl) (by intro h; cases h) }
  rcases ite_some h with ⟨e, h⟩ | h; · { subst e; cases h; exact TyOk.of (z := .int .u32 0) (d := .int .u32) (by kernel_rfl) Tryd.underlying69 rfl rfl ⟨rfl, rfl, rfl⟩ (fun _ => rfl) (by intro h; cases h) }
  rcases ite_some h with ⟨e, h⟩ | h; · { subst e; cases h; exact TyOk.of (z := .int .u64 0) (d := .int .u64) (by kernel_rfl) Tryd.underlying71 rfl rfl ⟨rfl, rfl, rfl⟩ (fun _ => rfl) (by intro h; cases h) }
  rcases ite_some h with ⟨e, h⟩ | h; · { subst e; cases h; exact TyOk.of (z := .slice none 0 0) (d := .slice 3) (by kernel_rfl) Tryd.underlying33 rfl rfl ⟨rfl, rfl, rfl⟩ (fun _ => rfl) (by intro h; cases h) }
  rcases ite_some h with ⟨e, h⟩ | h; · { subst e; cases h; exact TyOk.of (z := .agg (List.replicate 20 (Value.int .u8 0)).toArray) (d := .array 20 5) (by kernel_rfl) Tryd.underlying28 (by kernel_rfl) rfl ⟨rfl, rfl, rfl, rfl⟩ (by intro h; cases h) (fun _ => rfl) }
  rcases ite_some h with ⟨e, h⟩ | h; · { subst e; cases h; exact TyOk.of (z := .agg (List.replicate 8 (Value.int .u8 0)).toArray) (d := .array 8 5) (by kernel_rfl) Tryd.underlying44 (by kernel_rfl) rfl ⟨rfl, rfl, rfl, rfl⟩ (by intro h; cases h) (fun _ => rfl) }
  rcases ite_some h with ⟨e, h⟩ | h; · { subst e; cases h; exact TyOk.of (z := .agg (List.replicate 3 (Value.int .i64 0)).toArray) (d := .array 3 3) (by kernel_rfl) Tryd.underlying55 (by kernel_rfl) rfl ⟨rfl, rfl, rfl, rfl⟩ (by intro h; cases h) (fun _ => rfl) }
  rcases ite_some h with ⟨e, h⟩ | h; · { subst e; cases h; exact TyOk.of (z := .agg (List.replicate 5 (Value.int .u32 0)).toArray) (d := .array 5 69) (by kernel_rfl) Tryd.underlying70 (by kernel_rfl) rfl ⟨rfl, rfl, rfl, rfl⟩ (by intro h; cases h) (fun _ => rfl) }
  rcases ite_some h with ⟨e, h⟩ | h; · { subst e; cases h; exact TyOk.of (z := .agg (List.replicate 80 (Value.int .u32 0)).toArray) (d := .array 80 69) (by kernel_rfl) Tryd.underlying80 (by kernel_rfl) rfl ⟨rfl, rfl, rfl, rfl⟩ (by intro h; cases h) (fun _ => rfl) }
  rcases ite_some h with ⟨e, h⟩ | h; · { subst e; cases h; exact TyOk.of (z := .agg #[.int .u32 0, .int .u32 0, .int .u32 0, .int .u32 0, .int .u32 0, .slice none 0 0, .int .u64 0]) (by kernel_rfl) Tryd.underlying73 (by kernel_rfl) rfl ⟨rfl, rfl, by kernel_rfl, by kernel_rfl⟩ (by intro h; cases h) (fun _ => rfl) }
  rcases ite_some h with ⟨e, h⟩ | h; · { subst e; cases h; exact TyOk.of (z := .pointer none) (by kernel_rfl) Tryd.underlying51 rfl rfl ⟨.inr rfl, rfl⟩ (fun _ => rfl) (by intro h; cases h) }
  cases h
/-- The library's table holds what it must. -/
def X10 (w : World) : Prop := Lib.TabIs Tryd.prog w "internal/strconv.uint64pow10" .u64 Lib.pow10Tab
theorem gX10 : Tryd.prog.globalNamed "internal/strconv.uint64pow10" = some 0 := by kernel_rfl
theorem X10_stay {w w' : World} (h : X10 w) (hb : w'.heap[0]? = w.heap[0]?) : X10 w' := by
  have h : w.var? Tryd.prog "internal/strconv.uint64pow10" = _ := h
  show w'.var? Tryd.prog "internal/strconv.uint64pow10" = _
  rw [← h]
  unfold World.var?
  rw [gX10]
  simp only [Option.bind_some, hb]
theorem X10_lt {w : World} (h : X10 w) : 0 < w.heap.size := by
  have h : w.var? Tryd.prog "internal/strconv.uint64pow10" = _ := h
  unfold World.var? at h
  rw [gX10] at h
  simp only [Option.bind_some] at h
  cases e : w.heap[0]? with
  | none => rw [e] at h; cases h
  | some o => exact (Array.getElem?_eq_some_iff.1 e).1
/-- What holds of the package's variables: the table, and that nobody writes to it. -/
def XX (ok : Nat → Prop) (w : World) : Prop := X10 w ∧ ok 0
noncomputable def cx : Cx := { P := Tryd.prog, T := T, tab := fun _ => none, X := XX }
theorem cx_ok : CxOk cx :=
  ⟨T_ok, fun ok ok' w w' h hok hs hlt => ⟨X10_stay h.1 (hs _ h.2 (hlt _ h.2)), hok _ h.2⟩⟩
theorem mixed : cx.P.follows .mixedOrders = true := by kernel_rfl
abbrev K (f : FuncId) (args : List SV) (r : Res) : Prop := PC cx f (fun _ => .no) args r
abbrev iv (n : Int) : SV := .p (.int .i64 n)
abbrev sv (s : List UInt8) : SV := .p (.str s)
end Go.So
