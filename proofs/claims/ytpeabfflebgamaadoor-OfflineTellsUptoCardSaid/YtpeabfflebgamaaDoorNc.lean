/- Contracts of layer 8's laws: what is shown first. -/
import Derived.Test.YtpeabfflebgamaaDoorNb
set_option linter.unusedVariables false
set_option linter.unusedSimpArgs false
namespace Go.Sl
open Go Go.Vc Go.Proofs Go.RowKit

abbrev kK : Tm := atomT [107]
abbrev sK : Tm := atomT [115]
abbrev xK : Tm := atomT [120]
abbrev yK : Tm := atomT [121]
abbrev eK : Tm := encT kK sK
abbrev pK : Tm := pubT xK
abbrev frK : List Tm := [eK, kK, pK, yK]
theorem g_kK : gdT kK := gd_atom (by simp)
theorem g_sK : gdT sK := gd_atom (by simp)
theorem g_xK : gdT xK := gd_atom (by simp)
theorem g_yK : gdT yK := gd_atom (by simp)
theorem gd_encT {x y : Tm} (hx : gdT x) (hy : gdT y) (h1 : x.depth ≤ 59) (h2 : y.depth ≤ 59) : gdT (encT x y) :=
  gd_of rfl rfl (.inr rfl) (by decide) (by simp [hx, hy]) (by simp only [Tm.depth, Tm.depths]; omega)
theorem gd_macT {x y : Tm} (hx : gdT x) (hy : gdT y) (h1 : x.depth ≤ 59) (h2 : y.depth ≤ 59) : gdT (.mk 5 [] [x, y]) :=
  gd_of rfl rfl (.inr rfl) (by decide) (by simp [hx, hy]) (by simp only [Tm.depth, Tm.depths]; omega)
theorem gd_pubT {x : Tm} (hx : gdT x) (h1 : x.depth ≤ 59) : gdT (pubT x) :=
  gd_of rfl rfl (.inr rfl) (by decide) (by simp [hx]) (by simp only [Tm.depth, Tm.depths]; omega)
theorem dep_leaf (k : Int) (n : Bs) : (Tm.mk k n []).depth = 1 := by simp [Tm.depth, Tm.depths]
theorem g_eK : gdT eK := gd_encT g_kK g_sK (by simp [dep_leaf]) (by simp [dep_leaf])
theorem g_pK : gdT pK := gd_pubT g_xK (by simp [dep_leaf])
theorem g_exS : gdT exS := ⟨txt_ne.2 ((shpD_iff _ _).1 exS_shp), can_right exS (by rw [rightT, exS_shp, exS_ord]; rfl)⟩
theorem frK_gd : ∀ v ∈ frK, gdT v := by
  intro v hv
  simp only [List.mem_cons, List.not_mem_nil, or_false] at hv
  rcases hv with rfl | rfl | rfl | rfl
  · exact g_eK
  · exact g_kK
  · exact g_pK
  · exact g_yK
/-- Of terms in order. -/
theorem fr_gd {l : List Tm} (h : ∀ v ∈ l, gdT v) {t : Tm} : Fr l t ↔ t ∈ l := by
  constructor
  · rintro ⟨v, hv, rfl⟩; rw [(h v hv).2]; exact hv
  · exact fun ht => ⟨t, ht, (h t ht).2⟩
theorem in_fr {l : List Tm} {t : Tm} (h : t ∈ l) (g : gdT t) : Fr l t := ⟨t, h, g.2⟩
def BK (t : Tm) : Prop := t ∈ [eK, kK, sK, pK, yK]
theorem BK_apart : Apart BK := fun t ht _ => by
  simp only [BK, List.mem_cons, List.not_mem_nil, or_false] at ht
  rcases ht with rfl | rfl | rfl | rfl | rfl
  · exact ⟨fun k => absurd k (by decide), fun _ x y e _ => by cases e; exact .base (by simp [BK]) g_sK, fun k => absurd k (by decide)⟩
  · exact ⟨fun k => absurd k (by decide), fun k => absurd k (by decide), fun k => absurd k (by decide)⟩
  · exact ⟨fun k => absurd k (by decide), fun k => absurd k (by decide), fun k => absurd k (by decide)⟩
  · exact ⟨fun k => absurd k (by decide), fun k => absurd k (by decide), fun k => absurd k (by decide)⟩
  · exact ⟨fun k => absurd k (by decide), fun k => absurd k (by decide), fun k => absurd k (by decide)⟩
theorem BK_gd : ∀ v, BK v → gdT v := by
  intro v hv
  simp only [BK, List.mem_cons, List.not_mem_nil, or_false] at hv
  rcases hv with rfl | rfl | rfl | rfl | rfl
  · exact g_eK
  · exact g_kK
  · exact g_sK
  · exact g_pK
  · exact g_yK
theorem frK_sub {t : Tm} (h : Cl (Fr frK) t) : Mk BK t := (h.cut (A := BK) fun u hu hg => .base (by
  have := (fr_gd frK_gd).1 hu
  simp only [BK, List.mem_cons, List.not_mem_nil, or_false] at this ⊢
  rcases this with h | h | h | h <;> simp [h]) hg).mk BK_apart
theorem noX : ¬ Cl (Fr frK) xK := fun h => by
  have := (mk_atom.1 (frK_sub h)).2
  simp [BK] at this
theorem inFrK {t : Tm} (h : t ∈ frK) : Cl (Fr frK) t := .base (in_fr h (frK_gd t h)) (frK_gd t h)
theorem hasS : Cl (Fr frK) sK := .enc (inFrK (t := eK) (by simp)) rfl rfl (inFrK (by simp))
theorem frK_frm : Frm frK := by
  constructor
  · intro t ht
    simp only [List.mem_cons, List.not_mem_nil, or_false] at ht
    have f : ∀ c : UInt8, Fit (atomT [c]) := fun c => Fit.data 2 (by simp)
    rcases ht with rfl | rfl | rfl | rfl
    · exact Fit.two 4 (by simp) (f _) (f _)
    · exact f _
    · exact Fit.one 8 (by simp) (f _)
    · exact f _
  · intro t ht
    simp only [List.mem_cons, List.not_mem_nil, or_false] at ht
    rcases ht with rfl | rfl | rfl | rfl <;> simp [wt, wts]
  · simp [Tm.sizes, Tm.size]
  · simp
theorem knK_true {l : List Tm} {t : Tm} (hg : gdT t) (h : Cl (Fr l) t) : knT l t = true := by rw [knT_iff, hg.2]; exact h
theorem knK_false {l : List Tm} {t : Tm} (hg : gdT t) (h : ¬ Cl (Fr l) t) : knT l t = false := by rw [← Bool.not_eq_true, knT_iff, hg.2]; exact h
theorem one_noS : ¬ Cl (Fr [eK]) sK := fun h => by
  have hf : ∀ u, Fr [eK] u → u = eK := fun u hu => by have := fr_one hu; rw [g_eK.2] at this; exact this
  have na : ∀ n, ¬ Mk (Fr [eK]) (atomT n) := fun n h => by
    have := hf _ (mk_atom.1 h).2
    cases this
  refine na _ (h.mk fun t ht _ => ?_)
  rw [hf t ht]
  exact ⟨fun k => absurd k (by decide), fun _ x y e h => by cases e; exact absurd h (na _), fun k => absurd k (by decide)⟩
theorem frK_len : (anT frK).length = 5 := by
  have hF := frK_frm.fin
  have hW := frK_frm.wk
  have hsub : ∀ t ∈ anT frK, t ∈ [eK, kK, sK, pK, yK] := fun t ht => by
    have h1 := hW.sub t ht
    have e : frK.map canT = frK := by simp only [List.map_cons, List.map_nil, g_eK.2, g_kK.2, g_pK.2, g_yK.2]
    rw [univ, e] at h1
    simp only [inTs, inT, List.append_nil, List.mem_append, List.mem_cons, List.not_mem_nil, or_false, List.cons_append, List.nil_append] at h1
    have h2 : t ≠ xK := fun h => noX (by rw [← h]; exact hF.sd.cl t ht)
    simp only [List.mem_cons, List.not_mem_nil, or_false]
    rcases h1 with h | h | h | h | h | h | h
    · exact .inl h
    · exact .inr (.inl h)
    · exact .inr (.inr (.inl h))
    · exact .inr (.inl h)
    · exact .inr (.inr (.inr (.inl h)))
    · exact absurd h h2
    · exact .inr (.inr (.inr (.inr h)))
  have hb : ∀ t ∈ frK, t ∈ anT frK := fun t ht => by
    have := hF.base t ht
    rw [(frK_gd t ht).2] at this
    exact this (frK_gd t ht).1
  have hs : sK ∈ anT frK := hF.shut eK (hb eK (by simp)) sK (by
    have hk : mkB (anK frK).s kK = true := (hF.iff g_kK.2).2 (inFrK (by simp))
    simp [givesT, wayT, Tm.kind, Tm.kids, hk])
  have hnd : (anT frK).Nodup := by have := hW.nd; rw [hW.s] at this; exact nodup_of_map this
  have h1 := nodup_len hnd hsub
  have h2 : [eK, kK, sK, pK, yK].length ≤ (anT frK).length := nodup_len (by decide) fun t ht => by
    simp only [List.mem_cons, List.not_mem_nil, or_false] at ht
    rcases ht with rfl | rfl | rfl | rfl | rfl
    · exact hb _ (by simp)
    · exact hb _ (by simp)
    · exact hs
    · exact hb _ (by simp)
    · exact hb _ (by simp)
  have h1 : (anT frK).length ≤ 5 := h1
  have h2 : 5 ≤ (anT frK).length := h2
  omega
theorem shown8_ok : K true 5 [] (.pv (.bool true)) := by
  have f : ∀ c : UInt8, Fit (atomT [c]) := fun c => Fit.data 2 (by simp)
  have w : ∀ c : UInt8, wt (atomT [c]) ≤ 1000000000 := fun c => by simp [wt, wts]
  have fE : Frm frK := frK_frm
  have kn : ∀ t v, Fit t → wt t ≤ 1000000000 → knT frK t = v → K true 10 [.p (.lst [TV eK, TV kK, TV pK, TV yK]), tv t] (.pv (.bool v)) := fun t v ft ht e => by
    have := knowsF_ok fE ft ht; rw [e] at this; exact this
  have md : ∀ t v, Fit t → wt t ≤ 1000000000 → mdT frK t = v → K true 9 [.p (.lst [TV eK, TV kK, TV pK, TV yK]), tv t] (.pv (.bool v)) := fun t v ft ht e => by
    have := madeL_ok fE ft ht; rw [e] at this; exact this
  have k1 : K true 10 [.p (.lst [TV eK]), tv sK] (.pv (.bool false)) := by
    have := knowsF_ok (l := [eK]) (t := sK) ⟨by simpa using fE.fit eK (by simp), by simp [wt, wts], by simp [Tm.sizes, Tm.size], by simp⟩ (f _) (w _)
    rw [knK_false g_sK one_noS] at this; exact this
  have sh : K true 24 [tv xK, tv yK] (.pv (TV exS)) := by
    have := share_ok xK yK (f _) (f _) (fun _ => text_big (f _) (w _)) (fun _ => text_big (f _) (w _))
    have e : shareT xK yK = exS := by unfold shareT; rw [if_neg]; rw [show lessT yK xK = false from less_asymm exS_less]; decide
    rw [e] at this; exact this
  have hsh : Cl (Fr frK) exS := .sh2 g_exS rfl rfl (inFrK (by simp)) (inFrK (by simp))
  have an : K true 8 [.p (.lst [TV eK, TV kK, TV pK, TV yK])] (.pv (.lst (tmvs (anT frK)))) := analyze_ok fE
  have hL : (tmvs (anT frK)).length = 5 := by rw [tmvs_length]; exact frK_len
  obtain ⟨AL, hAL⟩ : ∃ AL, AL = tmvs (anT frK) := ⟨_, rfl⟩
  rw [← hAL] at an hL
  have hh : mdT frK (hashT kK) = true := by
    have g : gdT (hashT kK) := gd_hash g_kK (by simp [dep_leaf])
    rw [mdT_iff, g.2]
    exact Mk.of g (by decide) (by decide) (by decide) fun u hu => by rw [List.mem_singleton.1 hu]; exact .base (in_fr (by simp) g_kK) g_kK
  have hs : mdT frK sK = false := by
    rw [← Bool.not_eq_true, mdT_iff, g_sK.2]
    intro h
    have := (fr_gd frK_gd).1 (mk_atom.1 h).2
    simp at this
  refine PC_of_vc (cx_ok true) (mixed true) {} Tryd.func5 (by kernel_rfl) rfl rfl (by kernel_rfl) ?_
  repeat (conv => whnf); first|refine IndepAnd (by kernel_rfl) ?_|refine TreeAnd (by kernel_rfl) ?_|refine ⟨rfl,?_⟩|refine And.intro (by first|decide|exact trivial|exact ⟨rfl,trivial⟩|exact Nat.le_of_ble_eq_true rfl|exact ⟨_,rfl,rfl⟩|exact ⟨rfl,rfl,trivial⟩|exact ⟨rfl,rfl,rfl,trivial⟩|exact ⟨rfl,rfl,rfl,rfl,trivial⟩|exact ⟨rfl,rfl,rfl,rfl,rfl,trivial⟩) ?_
  conv => whnf
  refine ⟨_, CallVC.pr (atom_ok true [107]) rfl rfl, ?_⟩
  repeat (conv => whnf); first|refine IndepAnd (by kernel_rfl) ?_|refine TreeAnd (by kernel_rfl) ?_|refine ⟨rfl,?_⟩|refine And.intro (by first|decide|exact trivial|exact ⟨rfl,trivial⟩|exact Nat.le_of_ble_eq_true rfl|exact ⟨_,rfl,rfl⟩|exact ⟨rfl,rfl,trivial⟩|exact ⟨rfl,rfl,rfl,trivial⟩|exact ⟨rfl,rfl,rfl,rfl,trivial⟩|exact ⟨rfl,rfl,rfl,rfl,rfl,trivial⟩) ?_
  conv => whnf
  refine ⟨_, CallVC.pr (atom_ok true [115]) rfl rfl, ?_⟩
  repeat (conv => whnf); first|refine IndepAnd (by kernel_rfl) ?_|refine TreeAnd (by kernel_rfl) ?_|refine ⟨rfl,?_⟩|refine And.intro (by first|decide|exact trivial|exact ⟨rfl,trivial⟩|exact Nat.le_of_ble_eq_true rfl|exact ⟨_,rfl,rfl⟩|exact ⟨rfl,rfl,trivial⟩|exact ⟨rfl,rfl,rfl,trivial⟩|exact ⟨rfl,rfl,rfl,rfl,trivial⟩|exact ⟨rfl,rfl,rfl,rfl,rfl,trivial⟩) ?_
  conv => whnf
  refine ⟨_, CallVC.pr (atom_ok true [120]) rfl rfl, ?_⟩
  repeat (conv => whnf); first|refine IndepAnd (by kernel_rfl) ?_|refine TreeAnd (by kernel_rfl) ?_|refine ⟨rfl,?_⟩|refine And.intro (by first|decide|exact trivial|exact ⟨rfl,trivial⟩|exact Nat.le_of_ble_eq_true rfl|exact ⟨_,rfl,rfl⟩|exact ⟨rfl,rfl,trivial⟩|exact ⟨rfl,rfl,rfl,trivial⟩|exact ⟨rfl,rfl,rfl,rfl,trivial⟩|exact ⟨rfl,rfl,rfl,rfl,rfl,trivial⟩) ?_
  conv => whnf
  refine ⟨_, CallVC.pr (atom_ok true [121]) rfl rfl, ?_⟩
  repeat (conv => whnf); first|refine IndepAnd (by kernel_rfl) ?_|refine TreeAnd (by kernel_rfl) ?_|refine ⟨rfl,?_⟩|refine And.intro (by first|decide|exact trivial|exact ⟨rfl,trivial⟩|exact Nat.le_of_ble_eq_true rfl|exact ⟨_,rfl,rfl⟩|exact ⟨rfl,rfl,trivial⟩|exact ⟨rfl,rfl,rfl,trivial⟩|exact ⟨rfl,rfl,rfl,rfl,trivial⟩|exact ⟨rfl,rfl,rfl,rfl,rfl,trivial⟩) ?_
  conv => whnf
  refine ⟨_, CallVC.pr (enc_ok true kK sK) rfl rfl, ?_⟩
  repeat (conv => whnf); first|refine IndepAnd (by kernel_rfl) ?_|refine TreeAnd (by kernel_rfl) ?_|refine ⟨rfl,?_⟩|refine And.intro (by first|decide|exact trivial|exact ⟨rfl,trivial⟩|exact Nat.le_of_ble_eq_true rfl|exact ⟨_,rfl,rfl⟩|exact ⟨rfl,rfl,trivial⟩|exact ⟨rfl,rfl,rfl,trivial⟩|exact ⟨rfl,rfl,rfl,rfl,trivial⟩|exact ⟨rfl,rfl,rfl,rfl,rfl,trivial⟩) ?_
  conv => whnf
  refine ⟨_, CallVC.pr (pub_ok true xK) rfl rfl, ?_⟩
  repeat (conv => whnf); first|refine IndepAnd (by kernel_rfl) ?_|refine TreeAnd (by kernel_rfl) ?_|refine ⟨rfl,?_⟩|refine And.intro (by first|decide|exact trivial|exact ⟨rfl,trivial⟩|exact Nat.le_of_ble_eq_true rfl|exact ⟨_,rfl,rfl⟩|exact ⟨rfl,rfl,trivial⟩|exact ⟨rfl,rfl,rfl,trivial⟩|exact ⟨rfl,rfl,rfl,rfl,trivial⟩|exact ⟨rfl,rfl,rfl,rfl,rfl,trivial⟩) ?_
  conv => whnf
  refine ⟨_, CallVC.pr (kn sK true (f _) (w _) (knK_true g_sK hasS)) rfl rfl, ?_⟩
  repeat (conv => whnf); first|refine IndepAnd (by kernel_rfl) ?_|refine TreeAnd (by kernel_rfl) ?_|refine ⟨rfl,?_⟩|refine And.intro (by first|decide|exact trivial|exact ⟨rfl,trivial⟩|exact Nat.le_of_ble_eq_true rfl|exact ⟨_,rfl,rfl⟩|exact ⟨rfl,rfl,trivial⟩|exact ⟨rfl,rfl,rfl,trivial⟩|exact ⟨rfl,rfl,rfl,rfl,trivial⟩|exact ⟨rfl,rfl,rfl,rfl,rfl,trivial⟩) ?_
  conv => whnf
  refine ⟨_, CallVC.pr sh rfl rfl, ?_⟩
  repeat (conv => whnf); first|refine IndepAnd (by kernel_rfl) ?_|refine TreeAnd (by kernel_rfl) ?_|refine ⟨rfl,?_⟩|refine And.intro (by first|decide|exact trivial|exact ⟨rfl,trivial⟩|exact Nat.le_of_ble_eq_true rfl|exact ⟨_,rfl,rfl⟩|exact ⟨rfl,rfl,trivial⟩|exact ⟨rfl,rfl,rfl,trivial⟩|exact ⟨rfl,rfl,rfl,rfl,trivial⟩|exact ⟨rfl,rfl,rfl,rfl,rfl,trivial⟩) ?_
  conv => whnf
  refine ⟨_, CallVC.pr (kn exS true (Fit.two 9 (by simp) (f _) (f _)) (by simp [wt, wts]) (knK_true g_exS hsh)) rfl rfl, ?_⟩
  repeat (conv => whnf); first|refine IndepAnd (by kernel_rfl) ?_|refine TreeAnd (by kernel_rfl) ?_|refine ⟨rfl,?_⟩|refine And.intro (by first|decide|exact trivial|exact ⟨rfl,trivial⟩|exact Nat.le_of_ble_eq_true rfl|exact ⟨_,rfl,rfl⟩|exact ⟨rfl,rfl,trivial⟩|exact ⟨rfl,rfl,rfl,trivial⟩|exact ⟨rfl,rfl,rfl,rfl,trivial⟩|exact ⟨rfl,rfl,rfl,rfl,rfl,trivial⟩) ?_
  conv => whnf
  refine ⟨_, CallVC.pr (kn xK false (f _) (w _) (knK_false g_xK noX)) rfl rfl, ?_⟩
  repeat (conv => whnf); first|refine IndepAnd (by kernel_rfl) ?_|refine TreeAnd (by kernel_rfl) ?_|refine ⟨rfl,?_⟩|refine And.intro (by first|decide|exact trivial|exact ⟨rfl,trivial⟩|exact Nat.le_of_ble_eq_true rfl|exact ⟨_,rfl,rfl⟩|exact ⟨rfl,rfl,trivial⟩|exact ⟨rfl,rfl,rfl,trivial⟩|exact ⟨rfl,rfl,rfl,rfl,trivial⟩|exact ⟨rfl,rfl,rfl,rfl,rfl,trivial⟩) ?_
  conv => whnf
  refine ⟨⟨tiTerm, rfl, rfl, rfl, rfl, rfl, trivial⟩, ?_⟩
  repeat (conv => whnf); first|refine IndepAnd (by kernel_rfl) ?_|refine TreeAnd (by kernel_rfl) ?_|refine ⟨rfl,?_⟩|refine And.intro (by first|decide|exact trivial|exact ⟨rfl,trivial⟩|exact Nat.le_of_ble_eq_true rfl|exact ⟨_,rfl,rfl⟩|exact ⟨rfl,rfl,trivial⟩|exact ⟨rfl,rfl,rfl,trivial⟩|exact ⟨rfl,rfl,rfl,rfl,trivial⟩|exact ⟨rfl,rfl,rfl,rfl,rfl,trivial⟩) ?_
  conv => whnf
  refine ⟨_, CallVC.pr k1 rfl rfl, ?_⟩
  repeat (conv => whnf); first|refine IndepAnd (by kernel_rfl) ?_|refine TreeAnd (by kernel_rfl) ?_|refine ⟨rfl,?_⟩|refine And.intro (by first|decide|exact trivial|exact ⟨rfl,trivial⟩|exact Nat.le_of_ble_eq_true rfl|exact ⟨_,rfl,rfl⟩|exact ⟨rfl,rfl,trivial⟩|exact ⟨rfl,rfl,rfl,trivial⟩|exact ⟨rfl,rfl,rfl,rfl,trivial⟩|exact ⟨rfl,rfl,rfl,rfl,rfl,trivial⟩) ?_
  conv => whnf
  refine ⟨_, CallVC.pr an rfl rfl, ?_⟩
  repeat (conv => whnf); first|refine IndepAnd (by kernel_rfl) ?_|refine TreeAnd (by kernel_rfl) ?_|refine ⟨rfl,?_⟩|refine And.intro (by first|decide|exact trivial|exact ⟨rfl,trivial⟩|exact Nat.le_of_ble_eq_true rfl|exact ⟨_,rfl,rfl⟩|exact ⟨rfl,rfl,trivial⟩|exact ⟨rfl,rfl,rfl,trivial⟩|exact ⟨rfl,rfl,rfl,rfl,trivial⟩|exact ⟨rfl,rfl,rfl,rfl,rfl,trivial⟩) ?_
  conv => whnf
  rw [hL]
  repeat (conv => whnf); first|refine IndepAnd (by kernel_rfl) ?_|refine TreeAnd (by kernel_rfl) ?_|refine ⟨rfl,?_⟩|refine And.intro (by first|decide|exact trivial|exact ⟨rfl,trivial⟩|exact Nat.le_of_ble_eq_true rfl|exact ⟨_,rfl,rfl⟩|exact ⟨rfl,rfl,trivial⟩|exact ⟨rfl,rfl,rfl,trivial⟩|exact ⟨rfl,rfl,rfl,rfl,trivial⟩|exact ⟨rfl,rfl,rfl,rfl,rfl,trivial⟩) ?_
  conv => whnf
  refine ⟨_, CallVC.pr (hash_ok true kK) rfl rfl, ?_⟩
  repeat (conv => whnf); first|refine IndepAnd (by kernel_rfl) ?_|refine TreeAnd (by kernel_rfl) ?_|refine ⟨rfl,?_⟩|refine And.intro (by first|decide|exact trivial|exact ⟨rfl,trivial⟩|exact Nat.le_of_ble_eq_true rfl|exact ⟨_,rfl,rfl⟩|exact ⟨rfl,rfl,trivial⟩|exact ⟨rfl,rfl,rfl,trivial⟩|exact ⟨rfl,rfl,rfl,rfl,trivial⟩|exact ⟨rfl,rfl,rfl,rfl,rfl,trivial⟩) ?_
  conv => whnf
  refine ⟨_, CallVC.pr (md (hashT kK) true (Fit.one 6 (by simp) (f _)) (by simp [wt, wts]) hh) rfl rfl, ?_⟩
  repeat (conv => whnf); first|refine IndepAnd (by kernel_rfl) ?_|refine TreeAnd (by kernel_rfl) ?_|refine ⟨rfl,?_⟩|refine And.intro (by first|decide|exact trivial|exact ⟨rfl,trivial⟩|exact Nat.le_of_ble_eq_true rfl|exact ⟨_,rfl,rfl⟩|exact ⟨rfl,rfl,trivial⟩|exact ⟨rfl,rfl,rfl,trivial⟩|exact ⟨rfl,rfl,rfl,rfl,trivial⟩|exact ⟨rfl,rfl,rfl,rfl,rfl,trivial⟩) ?_
  conv => whnf
  refine ⟨_, CallVC.pr (md sK false (f _) (w _) hs) rfl rfl, ?_⟩
  repeat (conv => whnf); first|refine IndepAnd (by kernel_rfl) ?_|refine TreeAnd (by kernel_rfl) ?_|refine ⟨rfl,?_⟩|refine And.intro (by first|decide|exact trivial|exact ⟨rfl,trivial⟩|exact Nat.le_of_ble_eq_true rfl|exact ⟨_,rfl,rfl⟩|exact ⟨rfl,rfl,trivial⟩|exact ⟨rfl,rfl,rfl,trivial⟩|exact ⟨rfl,rfl,rfl,rfl,trivial⟩|exact ⟨rfl,rfl,rfl,rfl,rfl,trivial⟩) ?_
  conv => whnf
  exact LEP.refl _
end Go.Sl
