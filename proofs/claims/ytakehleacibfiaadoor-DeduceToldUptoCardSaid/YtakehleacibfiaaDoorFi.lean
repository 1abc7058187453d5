/- Contracts: what the statements on armor share. -/
import Derived.Test.YtakehleacibfiaaDoorFh
set_option linter.unusedVariables false
namespace Go.Sl
open Go Go.Vc Go.Proofs Go.RowKit Go.Sort Go.Lib

/-! ### Fit -/
theorem Fit.data (k : Int) {s : Bs} (h : s.length ≤ 9223372036854775807) : Fit (.mk k s []) := .mk (by decide) h (fun t h => by cases h)
theorem Fit.one (k : Int) {s : Bs} {t : Tm} (h : s.length ≤ 9223372036854775807) (ht : Fit t) : Fit (.mk k s [t]) := .mk (by simp) h (fun u hu => by simp at hu; rw [hu]; exact ht)
theorem Fit.two (k : Int) {s : Bs} {t u : Tm} (h : s.length ≤ 9223372036854775807) (ht : Fit t) (hu : Fit u) : Fit (.mk k s [t, u]) := .mk (by simp) h (fun v hv => by simp at hv; rcases hv with rfl | rfl <;> assumption)
theorem Fit.num {k : Tm} {w : Bs} {n : Int} (hk : Fit k) (hw : w.length ≤ 1000) (h0 : -9223372036854775808 ≤ n) (h1 : n ≤ 9223372036854775807) : Fit (numT k w n) :=
  Fit.one 7 (by have := itoa_len h0 h1; simp; omega) hk
theorem Fit.shut {k t : Tm} {n : Int} (hk : Fit k) (ht : Fit t) (h0 : -9223372036854775808 ≤ n) (h1 : n ≤ 9223372036854775807) : Fit (sealT k n t) := Fit.two 4 (by decide) (hk.num (by decide) h0 h1) ht
theorem Fit.pack {tag : Bs} {l : List Tm} (h : tag.length ≤ 1000) (hl : l.length ≤ 1000) (hf : ∀ t ∈ l, Fit t) : Fit (packT tag l) := .mk (by simp; omega) (by decide) (fun t ht => by
  simp at ht
  rcases ht with rfl | ht
  · exact Fit.data 1 (by omega)
  · exact hf t ht)
theorem Fit.ticket {k h : Tm} (hk : Fit k) (hh : Fit h) : Fit (ticketT k h) := hk.shut (Fit.pack (by decide) (by simp) (by simpa using hh)) (by decide) (by decide)
theorem Fit.wrap {t h s : Tm} (ht : Fit t) (hh : Fit h) (hs : Fit s) : Fit (wrapT t h s) := Fit.pack (by decide) (by simp) (by
  intro u hu
  simp at hu
  rcases hu with rfl | rfl
  · exact ht
  · exact hh.shut (Fit.pack (by decide) (by simp) (by simpa using hs)) (by decide) (by decide))
theorem Fit.req {k x p c : Tm} (hk : Fit k) (hx : Fit x) (hp : Fit p) (hc : Fit c) : Fit (reqT k x p c) := hk.shut (Fit.pack (by decide) (by simp) (by
  intro u hu
  simp at hu
  rcases hu with rfl | rfl | rfl
  · exact Fit.one 6 (by decide) hx
  · exact hp
  · exact hc)) (by decide) (by decide)
theorem Fit.ans {k t : Tm} {n : Bs} (hk : Fit k) (ht : Fit t) (hn : n.length ≤ 9223372036854775800) : Fit (ansT k n t) := hk.shut (Fit.pack (by decide) (by simp) (by
  intro u hu
  simp at hu
  rcases hu with rfl | rfl
  · exact Fit.data 1 (by simp; omega)
  · exact ht)) (by decide) (by decide)
theorem Fit.join {a c : Tm} {fa fb : Bs} (ha : Fit a) (hc : Fit c) (h1 : fa.length ≤ 1000) (h2 : fb.length ≤ 1000) : Fit (joinT a c fa fb) :=
  Fit.one 6 (by decide) (Fit.two 3 (by decide) (Fit.one 7 (by simp; omega) ha) (Fit.one 7 (by simp; omega) hc))

/-! ### What is shut up is opened -/
theorem unseal_seal (k : Tm) (n : Int) (t : Tm) : unsealT k n (sealT k n t) = (t, 0) := by
  rw [unsealT_at rfl rfl]
  exact if_pos rfl
theorem tagT_pack (tag : Bs) (l : List Tm) : tagT (packT tag l) = tag := by simp [tagT, packT, Tm.kind, Tm.name, Tm.kids]
theorem unpack_pack {tag : Bs} (h : tag ≠ []) (l : List Tm) : unpackT tag l.length (packT tag l) = some l := by
  unfold unpackT
  rw [if_pos ⟨h, tagT_pack tag l, rfl⟩]
  rfl
theorem sealed_seal {k : Tm} {n : Int} {tag : Bs} (h : tag ≠ []) (l : List Tm) : sealedT k n (sealT k n (packT tag l)) tag l.length = (l, 0) := by
  unfold sealedT
  rw [unseal_seal]
  simp only [ne_eq, not_true_eq_false, if_false]
  rw [unpack_pack h]
theorem open_wrap (k h s : Tm) : openT k (wrapT (ticketT k h) h s) = (joinT s h subW tickW, 0) := by
  have h1 : unpackT armorW 2 (wrapT (ticketT k h) h s) = some [ticketT k h, sealT h 11 (packT authW [s])] := unpack_pack (l := [_, _]) (by decide)
  have h2 : sealedT k 2 (ticketT k h) hostW 1 = ([h], 0) := sealed_seal (l := [h]) (by decide)
  have h3 : sealedT h 11 (sealT h 11 (packT authW [s])) authW 1 = ([s], 0) := sealed_seal (l := [s]) (by decide)
  unfold openT
  rw [h1]
  simp only [at_, List.getD_cons_zero, List.getD_cons_succ, h2, h3]
  simp
theorem ansOf_ans (k : Tm) (n m : Bs) (t : Tm) : ansOfT k m (ansT k n t) = if m = n then (t, 0) else (zeroT, 6) := by
  have h1 : sealedT k 52 (ansT k n t) answerW 2 = ([dataT (61 :: n), t], 0) := sealed_seal (l := [_, _]) (by decide)
  unfold ansOfT
  rw [h1]
  simp only [at_, List.getD_cons_zero, List.getD_cons_succ]
  by_cases e : m = n
  · subst e; simp
  · rw [if_neg (by simp), if_pos (by simpa using fun e' => e e'.symm), if_neg e]

/-! ### The statements' own helpers -/
abbrev largeW : Bs := [108, 97, 114, 103, 101]
def smallT (t : Tm) : Tm := if (100 : Int) < IntKind.i64.wrap (t.size : Nat) then atomT largeW else t
theorem Fit.small {t : Tm} (h : Fit t) : Fit (smallT t) := by
  unfold smallT
  split
  · exact Fit.data 2 (by decide)
  · exact h
abbrev kdcW : Bs := [107, 100, 99]
abbrev subsW : Bs := [115, 117, 98]
end Go.Sl
