/- DeduceChains: what is shut up under what is shut up is opened one behind the other. -/
import Derived.Test.YtjabfkeppaoegaaDoorMc
set_option linter.unusedVariables false
set_option linter.unusedSimpArgs false
namespace Go.Sl
open Go Go.Vc Go.Proofs Go.RowKit

/-- The keys, and what is shut up under them. -/
def kC (i : Nat) : Tm := atomT [107, UInt8.ofNat (97 + i)]
abbrev dC : Tm := dataT [107, 101, 121]
def pC (i : Nat) : Tm := pairT [dC, kC (i + 1)]
def eC (i : Nat) : Tm := encT (kC i) (pC i)
theorem g_kC (i : Nat) : gdT (kC i) := gd_atom (by simp)
theorem g_dC : gdT dC := gd_data (by simp)
theorem g_pC (i : Nat) : gdT (pC i) := gd_pair (by simp [g_dC, g_kC]) (by simp [Tm.depths, kC, dep_leaf])
theorem g_eC (i : Nat) : gdT (eC i) := gd_encT (g_kC i) (g_pC i) (by simp [kC, dep_leaf]) (by simp [pC, kC, Tm.depth, Tm.depths])
theorem kC_inj {i j : Nat} (hi : i ≤ 100) (hj : j ≤ 100) (h : kC i = kC j) : i = j := by
  injection h with _ h
  injection h with _ h
  injection h with h _
  have := congrArg UInt8.toNat h
  simp at this
  omega
/-- From the g-th on. -/
def BC (n g : Nat) (t : Tm) : Prop := (∃ i, i < n ∧ t = eC i) ∨ ∃ i, g ≤ i ∧ i ≤ n ∧ t = kC i
theorem kC_mk {n g i : Nat} (hn : n ≤ 15) (hi : i ≤ n) (h : Mk (BC n g) (kC i)) : g ≤ i := by
  rcases (mk_atom.1 h).2 with ⟨j, _, e⟩ | ⟨j, hg, hj, e⟩
  · cases e
  · rw [kC_inj (i := i) (j := j) (by omega) (by omega) e]; exact hg
theorem BC_apart {n g : Nat} (hn : n ≤ 15) : Apart (BC n g) := fun t ht _ => by
  rcases ht with ⟨i, hi, rfl⟩ | ⟨i, _, _, rfl⟩
  · refine ⟨fun k => absurd k (show (4 : Int) ≠ 3 by decide), fun _ x y e h => ?_, fun k => absurd k (show (4 : Int) ≠ 10 by decide)⟩
    cases e
    have hg := kC_mk hn (by omega) h
    refine Mk.of (g_pC i) (by decide) (by decide) (by decide) fun u hu => ?_
    simp only [List.mem_cons, List.not_mem_nil, or_false] at hu
    rcases hu with rfl | rfl
    · exact .data g_dC rfl
    · exact .base (.inr ⟨i + 1, by omega, by omega, rfl⟩) (g_kC _)
  · exact ⟨fun k => absurd k (show (2 : Int) ≠ 3 by decide), fun k => absurd k (show (2 : Int) ≠ 4 by decide), fun k => absurd k (show (2 : Int) ≠ 10 by decide)⟩
theorem chain_no {n : Nat} (hn : n ≤ 15) {F : List Tm} (hF : ∀ t, t ∈ F ↔ ∃ j, j < n ∧ t = eC j) {i : Nat} (hi : i ≤ n) : knT F (kC i) = false := by
  refine knK_false (g_kC i) fun h => ?_
  have := kC_mk (g := n + 1) hn hi ((h.cut (A := BC n (n + 1)) fun u hu hg => by
    obtain ⟨v, hv, rfl⟩ := hu
    obtain ⟨j, hj, rfl⟩ := (hF v).1 hv
    rw [(g_eC j).2]
    exact .base (.inl ⟨j, hj, rfl⟩) (g_eC j)).mk (BC_apart hn))
  omega
theorem chain_yes {n g : Nat} (hn : n ≤ 15) (hg : g ≤ n) {F : List Tm} (hF : ∀ t, t ∈ F ↔ ∃ j, j < n ∧ t = eC j) {i : Nat} (hi : i ≤ n) : knT (F ++ [kC g]) (kC i) = decide (g ≤ i) := by
  by_cases hgi : g ≤ i
  · rw [decide_eq_true hgi]
    refine knK_true (g_kC i) ?_
    obtain ⟨d, rfl⟩ : ∃ d, i = g + d := ⟨i - g, by omega⟩
    clear hgi
    induction d with
    | zero => exact .base (fr_app.2 (.inr (in_fr (by simp) (g_kC g)))) (g_kC g)
    | succ d ih =>
      have he : Cl (Fr (F ++ [kC g])) (eC (g + d)) := .base (fr_app.2 (.inl (in_fr ((hF _).2 ⟨g + d, by omega, rfl⟩) (g_eC _)))) (g_eC _)
      have hp : Cl (Fr (F ++ [kC g])) (pC (g + d)) := .enc he rfl rfl (ih (by omega))
      exact .pair hp rfl (show kC (g + d + 1) ∈ [dC, kC (g + d + 1)] by simp)
  · rw [decide_eq_false hgi]
    refine knK_false (g_kC i) fun h => hgi ?_
    refine kC_mk (g := g) hn hi ((h.cut (A := BC n g) fun u hu hg' => ?_).mk (BC_apart hn))
    rcases fr_app.1 hu with ⟨v, hv, rfl⟩ | ⟨v, hv, rfl⟩
    · obtain ⟨j, hj, rfl⟩ := (hF v).1 hv
      rw [(g_eC j).2]
      exact .base (.inl ⟨j, hj, rfl⟩) (g_eC j)
    · rw [List.mem_singleton.1 hv, (g_kC g).2]
      exact .base (.inr ⟨g, Nat.le_refl _, hg, rfl⟩) (g_kC g)
theorem and16 (a : Int) : ∃ m : Nat, m ≤ 65535 ∧ IntKind.i64.wrap ((BitVec.ofInt 64 a &&& BitVec.ofInt 64 65535).toNat : Int) = (m : Int) := by
  obtain ⟨m, hm⟩ : ∃ m, m = (BitVec.ofInt 64 a &&& BitVec.ofInt 64 65535).toNat := ⟨_, rfl⟩
  have h1 : m ≤ 65535 := by
    rw [hm, BitVec.toNat_and]
    have : (BitVec.ofInt 64 65535).toNat = 65535 := by decide
    rw [this]
    exact Nat.and_le_right
  refine ⟨m, h1, ?_⟩
  rw [← hm]
  exact wrapN rfl (by omega)
def keysC (i : Nat) : List Tm := (List.range i).map kC
theorem keysC_succ (i : Nat) : keysC (i + 1) = keysC i ++ [kC i] := by simp [keysC, List.range_succ]
theorem keysC_len (i : Nat) : (keysC i).length = i := by simp [keysC]
theorem keysC_get {i j : Nat} (h : j < i) : (tmvs (keysC i))[(j : Int).toNat]? = some (TV (kC j)) := by
  rw [tmvs_eq]
  simp [keysC, h]
theorem u8_eq {i : Nat} (h : i ≤ 100) : [PV.int .u8 (97 + i : Nat)] = bytesL [UInt8.ofNat (97 + i)] := by
  show [PV.int .u8 (97 + i : Nat)] = [PV.int .u8 ((UInt8.ofNat (97 + i)).toNat : Nat)]
  have : (UInt8.ofNat (97 + i)).toNat = 97 + i := by simp; omega
  rw [this]
theorem wrapU {n : Nat} (h : n ≤ 1000) : IntKind.u64.wrap (n : Int) = (n : Int) := by
  simp only [IntKind.wrap, IntKind.bits, IntKind.signed]
  simp
  omega
structure FC (i : Nat) (F : List Tm) : Prop where
  len : F.length = i
  mem : ∀ t, t ∈ F ↔ ∃ j, j < i ∧ t = eC j
theorem FC.nil : FC 0 [] := ⟨rfl, fun t => by simp⟩
theorem FC.front {i : Nat} {F : List Tm} (h : FC i F) : FC (i + 1) ([eC i] ++ F) := ⟨by simp [h.len], fun t => by
  simp only [List.cons_append, List.nil_append, List.mem_cons, h.mem]
  constructor
  · rintro (rfl | ⟨j, hj, rfl⟩)
    · exact ⟨i, by omega, rfl⟩
    · exact ⟨j, by omega, rfl⟩
  · rintro ⟨j, hj, rfl⟩
    by_cases e : j = i
    · exact .inl (by rw [e])
    · exact .inr ⟨j, by omega, rfl⟩⟩
theorem FC.back {i : Nat} {F : List Tm} (h : FC i F) : FC (i + 1) (F ++ [eC i]) := ⟨by simp [h.len], fun t => by
  simp only [List.mem_append, List.mem_singleton, h.mem]
  constructor
  · rintro (⟨j, hj, rfl⟩ | rfl)
    · exact ⟨j, by omega, rfl⟩
    · exact ⟨i, by omega, rfl⟩
  · rintro ⟨j, hj, rfl⟩
    by_cases e : j = i
    · exact .inr (by rw [e])
    · exact .inl ⟨j, by omega, rfl⟩⟩
theorem len48' {n : Nat} {l : List PV} (h : l.length ≤ 1000) (hn : n ≤ 1000) : (l.length + n) * 48 ≤ 140737488355328 := by omega
end Go.Sl
