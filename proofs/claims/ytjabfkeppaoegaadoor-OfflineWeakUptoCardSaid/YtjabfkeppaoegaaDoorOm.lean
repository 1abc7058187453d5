/- OfflineWeak: what is made of the secret and of what is known is a test. -/
import Derived.Test.YtjabfkeppaoegaaDoorOl
set_option linter.unusedVariables false
set_option linter.unusedSimpArgs false
namespace Go.Sl
open Go Go.Vc Go.Proofs Go.RowKit

abbrev dD : Tm := dataT [100]
abbrev eD : Tm := dataT [101]
abbrev weakL (a x : Tm) : List Tm := [hashT a, kdfT a [119], .mk 5 [] [a, dD], encT (kdfT a [119]) x, pubT a, hashT (pairT [dD, a]), shareT a eD]
section
variable {L : List Tm} {s s' : Bs}
theorem g_dD : gdT dD := gd_data (by simp)
theorem g_eD : gdT eD := gd_data (by simp)
theorem Two.gpa (h : Two L s s') : gdT (pubT (frA s)) := gd_pubT h.ga (by rw [dA]; decide)
theorem Two.gpd (h : Two L s s') : gdT (pairT [dD, frA s]) := gd_pair (fun x hx => by
  simp only [List.mem_cons, List.not_mem_nil, or_false] at hx
  rcases hx with rfl | rfl
  · exact g_dD
  · exact h.ga) (by simp [Tm.depth, Tm.depths])
/-- One more term that is told: of what stands nowhere. -/
theorem one_more (h : Two L s s') {w : Tm} (gw : gdT w) (nw : ¬ P2 s s' w) (hA : ApF L (fun u => u = w)) {u : Tm} (hc : Cl (Fr (L ++ [w])) u) : Mk (BF L fun u => u = w) u :=
  frP (free_two s s') h.fr (fun u e => by rw [e]; exact nw) hA (fun u hu hg => by
    rcases fr_gone gw hu with hu | hu
    · exact .base (.inl (.base hu hg)) hg
    · exact .base (.inr hu) hg) hc
theorem an_last {L : List Tm} {w : Tm} (gw : gdT w) : An (Fr (L ++ [w])) w := .base (fr_app.2 (.inr (in_fr (List.mem_singleton.2 rfl) gw))) gw
theorem cl_sec (h : Two L s s') {w : Tm} : Cl (Fr (L ++ [w] ++ [frA s])) (frA s) := .base (fr_app.2 (.inr (in_fr (List.mem_singleton.2 rfl) h.ga))) h.ga
theorem an_last1 {L : List Tm} {w c : Tm} (gw : gdT w) : An (Fr (L ++ [w] ++ [c])) w := .base (fr_app.2 (.inl (fr_app.2 (.inr (in_fr (List.mem_singleton.2 rfl) gw))))) gw
/-- Of a kind that is not taken apart: what is made of a part that is gained. -/
theorem weak_part (h : Two L s s') {w v : Tm} (gw : gdT w) (k : w.kind = 5 ∨ w.kind = 6 ∨ w.kind = 7 ∨ w.kind = 8) (hv : v ∈ w.kids) (nv : ¬ P2 s s' v) (h1 : ∀ u ∈ w.kids, Cl (Fr (L ++ [w] ++ [frA s])) u)
    (h0 : ¬ Mk (BF L fun u => u = w) v) : HasT (L ++ [w]) (frA s) := by
  refine ⟨w, an_last1 gw, .part k (an_last gw) h1 fun hc => h0 (one_more h gw (nP_of hv nv) (apf_of fun t e => ?_) (hc v hv))⟩
  rw [e]; omega
theorem no_sec (h : Two L s s') {w : Tm} (k : w.kind ≠ 2) : ¬ Mk (BF L fun u => u = w) (frA s) := no_atom (free_two s s') h.fr nP_a fun e => k (by rw [← e]; rfl)
theorem weak_has (h : Two L s s') : ∀ w ∈ weakL (frA s) (frA s'), gdT w ∧ HasT (L ++ [w]) (frA s) := by
  intro w hw
  have ca := fun {w : Tm} => cl_sec h (w := w)
  have cd : ∀ {w : Tm}, Cl (Fr (L ++ [w] ++ [frA s])) dD := fun {w} => .data g_dD rfl
  have cw : ∀ {w : Tm}, Cl (Fr (L ++ [w] ++ [frA s])) (kdfT (frA s) [119]) := fun {w} => .comp (h.gw (by simp)) (show (7 : Int) ≠ 1 by decide) (show (7 : Int) ≠ 2 by decide) (show (7 : Int) ≠ 9 by decide) fun u hu => by
    have hu : u ∈ [frA s] := hu
    rw [List.mem_singleton.1 hu]; exact ca
  have one : ∀ {w v : Tm}, w.kids = [v] → Cl (Fr (L ++ [w] ++ [frA s])) v → ∀ u ∈ w.kids, Cl (Fr (L ++ [w] ++ [frA s])) u := fun e hc u hu => by rw [e] at hu; rw [List.mem_singleton.1 hu]; exact hc
  simp only [List.mem_cons, List.not_mem_nil, or_false] at hw
  rcases hw with rfl | rfl | rfl | rfl | rfl | rfl | rfl
  · exact ⟨h.gh, weak_part h h.gh (.inr (.inl rfl)) (v := frA s) (by simp [Tm.kids]) nP_a (one rfl ca) (no_sec h (show (6 : Int) ≠ 2 by decide))⟩
  · exact ⟨h.gw (by simp), weak_part h (h.gw (by simp)) (.inr (.inr (.inl rfl))) (v := frA s) (by simp [Tm.kids]) nP_a (one rfl ca) (no_sec h (show (7 : Int) ≠ 2 by decide))⟩
  · have g : gdT (.mk 5 [] [frA s, dD]) := gd_macT h.ga g_dD (by rw [dA]; decide) (by rw [dep_leaf]; decide)
    exact ⟨g, weak_part h g (.inl rfl) (v := frA s) (by simp [Tm.kids]) nP_a (fun u hu => by
      have hu : u ∈ [frA s, dD] := hu
      simp only [List.mem_cons, List.not_mem_nil, or_false] at hu
      rcases hu with rfl | rfl
      · exact ca
      · exact cd) (no_sec h (show (5 : Int) ≠ 2 by decide))⟩
  · obtain ⟨e, ee⟩ : ∃ e, e = encT (kdfT (frA s) [119]) (frA s') := ⟨_, rfl⟩
    have g : gdT e := by rw [ee]; exact gd_encT (h.gw (by simp)) h.gx (by simp [Tm.depth, Tm.depths]) (by rw [dA]; decide)
    rw [← ee]
    have ne : ¬ P2 s s' e := by rw [ee]; exact nP_of (u := frA s') (by simp [Tm.kids]) nP_x
    have nw : ¬ Mk (BF L fun u => u = e) (kdfT (frA s) [119]) := no_w h (fun hc => by rw [ee] at hc; cases hc) (fun hc => by rw [ee] at hc; cases hc)
    have hA : ApF L (fun u => u = e) := fun t ht _ => by
      rw [ht]
      refine ⟨fun k => ?_, fun _ x y ek hm => ?_, fun k => ?_⟩
      · rw [ee] at k; exact absurd k (show (4 : Int) ≠ 3 by decide)
      · have : x = kdfT (frA s) [119] := by rw [ee] at ek; injection ek with e1 _; exact e1.symm
        rw [this] at hm; exact absurd hm nw
      · rw [ee] at k; exact absurd k (show (4 : Int) ≠ 10 by decide)
    exact ⟨g, e, an_last1 g, .enc (x := kdfT (frA s) [119]) (y := frA s') (by rw [ee]; rfl) (by rw [ee]; rfl) cw fun hc => nw (one_more h g ne hA hc)⟩
  · exact ⟨h.gpa, weak_part h h.gpa (.inr (.inr (.inr rfl))) (v := frA s) (by simp [Tm.kids]) nP_a (one rfl ca) (no_sec h (show (8 : Int) ≠ 2 by decide))⟩
  · have g : gdT (hashT (pairT [dD, frA s])) := gd_hash h.gpd (by simp [Tm.depth, Tm.depths])
    have np : ¬ P2 s s' (pairT [dD, frA s]) := nP_of (u := frA s) (by simp [Tm.kids]) nP_a
    refine ⟨g, weak_part h g (.inr (.inl rfl)) (v := pairT [dD, frA s]) (by simp [Tm.kids]) np (one rfl ?_) ?_⟩
    · exact .comp h.gpd (show (3 : Int) ≠ 1 by decide) (show (3 : Int) ≠ 2 by decide) (show (3 : Int) ≠ 9 by decide) fun u hu => by
        have hu : u ∈ [dD, frA s] := hu
        simp only [List.mem_cons, List.not_mem_nil, or_false] at hu
        rcases hu with rfl | rfl
        · exact cd
        · exact ca
    · exact no_comp (free_two s s') h.fr (by decide) (by decide) (by decide) np (fun e => by cases e) fun hc => no_sec h (w := hashT (pairT [dD, frA s])) (show (6 : Int) ≠ 2 by decide) (hc _ (by simp))
  · obtain ⟨w, ew⟩ : ∃ w, w = shareT (frA s) eD := ⟨_, rfl⟩
    have g : gdT w := by rw [ew]; exact gd_share h.ga g_eD (by simp [Tm.depth, Tm.depths])
    rw [← ew]
    have hk : w.kind = 9 ∧ (w.kids = [frA s, eD] ∨ w.kids = [eD, frA s]) := by
      rw [ew]; unfold shareT
      split
      · exact ⟨rfl, .inr rfl⟩
      · exact ⟨rfl, .inl rfl⟩
    have nw : ¬ P2 s s' w := nP_of (u := frA s) (by rcases hk.2 with e | e <;> rw [e] <;> simp) nP_a
    have hA : ApF L (fun u => u = w) := apf_of fun t e => by rw [e, hk.1]; decide
    have om : ∀ {u}, Cl (Fr (L ++ [w])) u → Mk (BF L fun u => u = w) u := fun hc => one_more h g nw hA hc
    have n0 : ¬ Cl (Fr (L ++ [w])) (frA s) := fun hc => no_sec h (by rw [hk.1]; decide) (om hc)
    have n1 : ¬ Cl (Fr (L ++ [w])) (pubT (frA s)) := fun hc =>
      no_comp (free_two s s') h.fr (by decide) (by decide) (by decide) (nP_of (u := frA s) (by simp [Tm.kids]) nP_a) (fun e => by have := hk.1; rw [← e] at this; exact absurd this (show (8 : Int) ≠ 9 by decide)) (fun hc => no_sec h (by rw [hk.1]; decide) (hc _ (by simp))) (om hc)
    have ce : Cl (Fr (L ++ [w] ++ [frA s])) (pubT eD) := .comp (gd_pubT g_eD (by rw [dep_leaf]; decide)) (by decide) (by decide) (by decide) fun u hu => by
      have hu : u ∈ [eD] := hu
      rw [List.mem_singleton.1 hu]; exact .data g_eD rfl
    refine ⟨g, w, an_last1 g, ?_⟩
    rcases hk.2 with e | e
    · exact .share hk.1 e (an_last g) (.inl ⟨ca, ce⟩) fun hc => hc.elim (fun x => n0 x.1) (fun x => n1 x.2)
    · exact .share hk.1 e (an_last g) (.inr ⟨ca, ce⟩) fun hc => hc.elim (fun x => n1 x.2) (fun x => n0 x.1)
end
end Go.Sl
