/- DeduceFresh: who is told something new about nothing else learns nothing else. -/
import Derived.Test.YtjabfkeppaoegaaDoorMc
set_option linter.unusedVariables false
set_option linter.unusedSimpArgs false
namespace Go.Sl
open Go Go.Vc Go.Proofs Go.RowKit

/-- What is made of one that is known. -/
theorem mk_one {B : Tm → Prop} {k : Int} {s : Bs} {x : Tm} (hg : gdT (.mk k s [x])) (k1 : k ≠ 1) (k2 : k ≠ 2) (k9 : k ≠ 9) (h : Mk B x) : Mk B (.mk k s [x]) := Mk.of hg k1 k2 k9 fun u hu => by
  rw [List.mem_singleton.1 hu]; exact h
theorem fresh_eq {L : List Tm} {s : Bs} (hs : s ≠ []) (hL : ∀ v ∈ L, frA s ∉ inT v) {t : Tm} (ht : frA s ∉ inT t) : knT (L ++ [frA s, hashT (frA s), kdfT (frA s) [107], pubT (frA s)]) t = knT L t := by
  rw [Bool.eq_iff_iff, knT_iff, knT_iff]
  have g : gdT (frA s) := gd_atom hs
  have hd : (frA s).depth ≤ 59 := by rw [dep_leaf]; decide
  constructor
  · intro h
    have hF : ∀ u, u = frA s → frA s ∈ inT u := fun u e => by rw [e]; exact inT_self _
    refine mk_free hF (fresh_cl (F := fun u => u = frA s) hL hF (fun t e _ => ?_) (fun u hu hg => ?_) h) fun hc => ht (in_can hc)
    · subst e; exact ⟨fun k => absurd k (show (2 : Int) ≠ 3 by decide), fun k => absurd k (show (2 : Int) ≠ 4 by decide), fun k => absurd k (show (2 : Int) ≠ 10 by decide)⟩
    · have ma : Mk (BF L fun u => u = frA s) (frA s) := .base (.inr rfl) g
      rcases fr_app.1 hu with hu | ⟨v, hv, rfl⟩
      · exact .base (.inl (.base hu hg)) hg
      · simp only [List.mem_cons, List.not_mem_nil, or_false] at hv
        rcases hv with rfl | rfl | rfl | rfl
        · rw [g.2]; exact ma
        · have gh := gd_hash g hd; rw [gh.2]; exact mk_one gh (by decide) (by decide) (by decide) ma
        · have gh : gdT (kdfT (frA s) [107]) := gd_kdf (by simp) g hd; rw [gh.2]; exact mk_one gh (by decide) (by decide) (by decide) ma
        · have gh := gd_pubT g hd; rw [gh.2]; exact mk_one gh (by decide) (by decide) (by decide) ma
  · exact fun h => h.mono fun u hu => fr_app.2 (.inl hu)
/-- Does a term stand in one? -/
theorem hasSub_ok {t a : Tm} (ft : Fit t) (hs : t.size ≤ 1000) : K true 27 [lv (subR t []), tv a] (.pv (.bool (decide (a ∈ inT t)))) := by
  have hm : ∀ u, u ∈ subR t [] ↔ u ∈ inT t := fun u => by rw [mem_subR]; simp
  have := has_ok true (subR t []) a (by have := subR_len t []; simp at this; omega) (fun u hu => ft.inT u ((hm u).1 hu))
  rwa [show decide (a ∈ subR t []) = decide (a ∈ inT t) by rw [decide_eq_decide]; exact hm a] at this
abbrev freshW : Bs := [102, 114, 101, 115, 104]
end Go.Sl
