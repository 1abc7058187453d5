/- A calculus of verification conditions, part 16: types looked up. -/
import Derived.Test.YtcdbgkcijelopaaDoorVcf
set_option linter.unusedVariables false
namespace Go.Vc
open Go Go.RowKit
theorem TyOk.of {P : Program} {t : Nat} {ti : TI} {z : Value} {d : TypeDesc} (h1 : (P.info? t).map (fun i => (i.size, i.bytes, i.zero)) = some (ti.sz, ti.bytes, some z)) (h2 : P.underlying t = some d) (h3 : cv z = .p ti.zero) (h4 : z.cells.size = ti.sz)
    (h5 : KindOk P ti d) (h6 : ti.agg = false → one z) (h7 : ti.agg = true → z = .agg z.cells) : TyOk P t ti := by
  obtain ⟨i, hi, he⟩ := Option.map_eq_some_iff.1 h1
  simp only [Prod.mk.injEq] at he
  exact ⟨i, d, z, hi, h2, he.1, he.2.1, he.2.2, h3, h4, h5, h6, h7⟩
theorem bool_rec {b : Bool} {A B : Prop} (h1 : b = true → A) (h2 : b = false → B) : Bool.rec (motive := fun _ => Prop) B A b := by
  cases b with
  | true => exact h1 rfl
  | false => exact h2 rfl
def S.nil : S := { ρ := fun _ => .no, η := fun _ => .no }
theorem Ge.nil (s : S) : Ge s S.nil := ⟨fun t _ _ _ _ _ => trivial, fun κ => .inl rfl, ⟨fun t κ h => by simp [S.nil, SV.keys] at h, fun t κ h => by simp [S.nil, AO.keys] at h⟩⟩
theorem Ge.put {s σ : S} {t : Nat} {x : SV} (hg : Ge s σ) (h : LE (s.ρ t) x) (hk : ∀ κ ∈ x.keys, (σ.η κ).live = true) : Ge s (σ.put t x) :=
  ⟨fun t' => by
    rw [S.put_ρ]
    split
    · rename_i e; subst e; exact h
    · exact hg.ρ t', hg.η, hg.wf.put hk⟩
theorem Ge.putp {s σ : S} {t : Nat} {x : PV} (hg : Ge s σ) (h : LE (s.ρ t) (.p x)) : Ge s (σ.put t (.p x)) := hg.put h (by intro κ hκ; cases hκ)
theorem Ge.set {s σ : S} {κ : Nat} {o : AO} (hg : Ge s σ) (h : OLE (s.η κ) o) (hk : ∀ κ' ∈ o.keys, ((σ.set κ o).η κ').live = true) (hl : o.live = true) : Ge s (σ.set κ o) :=
  ⟨hg.ρ, fun κ' => by
    rw [S.set_η]
    split
    · rename_i e; subst e; exact h
    · exact hg.η κ', ⟨fun t κ' hκ' => by
      rw [S.set_η]
      split
      · exact hl
      · exact hg.wf.ρ t κ' hκ', fun t κ' hκ' => by
      rw [S.set_η] at hκ'
      split at hκ'
      · exact hk κ' hκ'
      · rw [S.set_η]
        split
        · exact hl
        · exact hg.wf.η t κ' hκ'⟩⟩
theorem LE.of {x y : SV} (h : x = y) : LE x y := h ▸ LE.refl x
theorem CallVC.pure {C : Cx} {η : Nat → AO} {f : FuncId} {args vargs : List SV} {r : Res} (args' : List SV) (h : PC C f (fun _ => .no) args' r) (hle : LEL vargs args') (hk : SV.keysL args' = []) (hs : r.scalar = true ∨ ∀ x ∈ args, noSlc x = true) : CallVC C η f args vargs r := by
  refine ⟨⟨fun _ => .no, args', hle, h, ?_, ?_, ?_, hs⟩⟩
  · intro κ; exact .inl rfl
  · intro κ hκ; rw [hk] at hκ; cases hκ
  · intro κ κ' hκ; simp [AO.keys] at hκ
end Go.Vc
