/- DeduceClosed: what was taken apart is taken apart. -/
import Derived.Test.YtpeabfflebgamaaDoorQf
set_option linter.unusedVariables false
set_option linter.unusedSimpArgs false
namespace Go.Sl
open Go Go.Vc Go.Proofs Go.RowKit

/-- A list of good terms, none twice, is its own. -/
theorem ofT_self : ∀ {l : List Tm}, (∀ t ∈ l, gdT t) → l.Nodup → (ofT l).l = l := by
  intro l hg hn
  have key : ∀ (m : List Tm) (k : Kn), k.s = k.l.map txtT → (∀ t ∈ k.l, gdT t) → (∀ t ∈ m, gdT t) → (k.l ++ m).Nodup → (m.foldl addT k).l = k.l ++ m := by
    intro m
    induction m with
    | nil => intro k _ _ _ _; simp
    | cons t m ih =>
      intro k hs hk hm hn
      have gt := hm t (List.mem_cons_self ..)
      have hnt : t ∉ k.l := by
        intro h
        have := (List.nodup_append.1 hn).2.2 t h t (List.mem_cons_self ..)
        exact this rfl
      have e : addT k t = ⟨k.l ++ [t], k.s ++ [txtT t], []⟩ := by
        unfold addT
        rw [gt.2, if_neg]
        rintro (h | h)
        · exact gt.1 h
        · rw [hs] at h
          exact hnt ((mem_txt (fun u hu => (hk u hu).1) gt.1).1 h)
      rw [List.foldl_cons, e]
      have := ih ⟨k.l ++ [t], k.s ++ [txtT t], []⟩ (by simp [hs]) (fun u hu => by
        rcases List.mem_append.1 hu with h | h
        · exact hk u h
        · rw [List.mem_singleton.1 h]; exact gt) (fun u hu => hm u (List.mem_cons_of_mem _ hu)) (by simpa using hn)
      rw [this]; simp
  have := key l ⟨[], [], []⟩ rfl (fun t h => by cases h) hg (by simpa using hn)
  simpa [ofT] using this
theorem an_nodup {l : List Tm} (h : Frm l) : (anT l).Nodup := by have := h.wk.nd; rw [h.wk.s] at this; exact nodup_of_map this
theorem an_gd {l : List Tm} (h : Frm l) : ∀ t ∈ anT l, gdT t := fun t ht => (h.fin.sd.cl t ht).gd
theorem an_ofT {l : List Tm} (h : Frm l) : (ofT (anT l)).l = anT l := ofT_self (an_gd h) (an_nodup h)
theorem an_s {l : List Tm} (h : Frm l) : (ofT (anT l)).s = (anK l).s := by rw [(Sd.of (anT l)).s, an_ofT h, h.fin.sd.s]
theorem adds_none : ∀ (m : List Tm) (k : Kn), (∀ t ∈ m, txtT (canT t) ∈ k.s) → (m.foldl addT k) = k
  | [], k, _ => rfl
  | t :: m, k, h => by
    have e : addT k t = k := if_pos (.inr (h t (List.mem_cons_self ..)))
    rw [List.foldl_cons, e]
    exact adds_none m k fun u hu => h u (List.mem_cons_of_mem _ hu)
theorem step_none {l : List Tm} (h : Frm l) : (stepK (ofT (anT l))).l = (ofT (anT l)).l := by
  have e := adds_none (moreT (ofT (anT l)).s (ofT (anT l)).l) ⟨(ofT (anT l)).l, (ofT (anT l)).s, dIn (ofT (anT l)).l (ofT (anT l)).s (ofT (anT l)).l (ofT (anT l)).d⟩ fun u hu => by
    obtain ⟨t, ht, hu⟩ := List.mem_flatMap.1 hu
    rw [an_ofT h] at ht
    rw [an_s h] at hu
    have hm := h.fin.shut t ht u hu
    have g := an_gd h u hm
    show txtT (canT u) ∈ (ofT (anT l)).s
    rw [g.2, (Sd.of (anT l)).s, an_ofT h]
    exact List.mem_map.2 ⟨u, hm, rfl⟩
  unfold stepK
  rw [e]
theorem an_fit {l : List Tm} (h : Frm l) : (∀ t ∈ anT l, Fit t) ∧ (∀ t ∈ anT l, wt t ≤ 1000000000) := ⟨h.wk.fit, h.wk.wt⟩
theorem an_an {l : List Tm} (h : Frm l) : anT (anT l) = anT l := by
  have hx := anK_end (an_fit h).1 (an_fit h).2
  have e1 : itK (ofT (anT l)) 1 = anK (anT l) := hx.only 1 (fun i h => by omega) (by decide) (by
    show (stepK (ofT (anT l))).l.length ≤ (ofT (anT l)).l.length
    rw [step_none h]; exact Nat.le_refl _)
  show (anK (anT l)).l = _
  rw [← e1]
  show (stepK (ofT (anT l))).l = _
  rw [step_none h, an_ofT h]
theorem an_univ {l : List Tm} (h : Frm l) : WK (univ l) (ofT (anT l)) :=
  { of_wk (an_fit h).1 (an_fit h).2 with sub := fun t ht => by rw [an_ofT h] at ht; exact h.wk.sub t ht }
theorem an_len {l : List Tm} (h : Frm l) : (anT l).length ≤ 2000 := by have h1 := h.wk.len; rw [univ_len] at h1; exact Nat.le_trans h1 h.sz
/-- Analyze of Analyze is it. -/
theorem analyze2_ok {l : List Tm} (h : Frm l) : K true 8 [lv (anT l)] (.pv (.lst (tmvs (anT l)))) := by
  have hx := anK_end (an_fit h).1 (an_fit h).2
  have hp : PM (cx true) 27 [] [lv (anT l)] (anK (anT l)).obs (.ptr 2000 0) :=
    analyzed_ok (univ l) (univ_kid l) (anT l) (an_fit h).1 (an_fit h).2 (by have := an_len h; omega) (an_univ h) (by rw [univ_len]; exact h.sz) (anK (anT l)) hx.only
  have he : (anK (anT l)).l = anT l := an_an h
  obtain ⟨e, ee⟩ : ∃ e, e = anK (anT l) := ⟨_, rfl⟩
  rw [← ee] at hp he
  refine PC_of_vc (cx_ok true) (mixed true) { own := fun q => Nat.beq q 100004 } Tryd.func8 (by kernel_rfl) rfl rfl (by kernel_rfl) ?_
  repeat (conv => whnf); first|refine IndepAnd (by kernel_rfl) ?_|refine TreeAnd (by kernel_rfl) ?_|refine ⟨rfl,?_⟩|refine And.intro (by first|decide|exact trivial|exact ⟨rfl,trivial⟩|exact Nat.le_of_ble_eq_true rfl|exact ⟨_,rfl,rfl⟩|exact ⟨rfl,rfl,trivial⟩|exact ⟨rfl,rfl,rfl,trivial⟩|exact ⟨rfl,rfl,rfl,rfl,trivial⟩|exact ⟨rfl,rfl,rfl,rfl,rfl,trivial⟩) ?_
  conv => whnf
  refine ⟨_, MCallVC.pr (gT [(2000, 1900), (1001, 1901), (2002, 1902), (2003, 1903)]) hp ⟨LE.of rfl, trivial⟩ trivial rfl, ?_⟩
  repeat (conv => whnf); first|refine IndepAnd (by kernel_rfl) ?_|refine TreeAnd (by kernel_rfl) ?_|refine ⟨rfl,?_⟩|refine And.intro (by first|decide|exact trivial|exact ⟨rfl,trivial⟩|exact Nat.le_of_ble_eq_true rfl|exact ⟨_,rfl,rfl⟩|exact ⟨rfl,rfl,trivial⟩|exact ⟨rfl,rfl,rfl,trivial⟩|exact ⟨rfl,rfl,rfl,rfl,trivial⟩|exact ⟨rfl,rfl,rfl,rfl,rfl,trivial⟩) ?_
  conv => whnf
  exact LEP.of (congrArg (fun l => PV.lst (tmvs l)) he)
theorem madeG_ok {l : List Tm} {t : Tm} (hf : ∀ t ∈ l, Fit t) (hw : ∀ t ∈ l, wt t ≤ 1000000000) (hl : l.length ≤ 2000) (ft : Fit t) (ht : wt t ≤ 1000000000) : K true 9 [lv l, tv t] (.pv (.bool (mdT l t))) := by
  obtain ⟨D', d1, d2⟩ := Makes_ok (ofT l).l (ofT l).s t ft ht (ofT l).d (of_wk hf hw).d
  rw [mdT_eq]
  refine PC_of_vc (cx_ok true) (mixed true) { own := fun q => Nat.beq q 100006 || Nat.beq q 100008, tr := trT [(1, [0, 1, 0, 7, 15], .one 0 (.alt (.one 1 (.one 2 (.one 3 (.one 4 (.fin))))) (.one 2 (.one 1 (.one 3 (.one 4 (.fin)))))))] } Tryd.func9 (by kernel_rfl) rfl rfl (by kernel_rfl) ?_
  repeat' ((conv => whnf); first | refine IndepAnd (by kernel_rfl) ?_ | refine TreeAnd (by kernel_rfl) ?_ | refine ⟨rfl, ?_⟩ | refine ⟨by decide, ?_⟩ | refine ⟨trivial, ?_⟩ | refine ⟨⟨rfl, trivial⟩, ?_⟩ | refine ⟨Nat.le_of_ble_eq_true rfl, ?_⟩ | refine ⟨⟨_, rfl, rfl⟩, ?_⟩ | refine ⟨⟨rfl, rfl, trivial⟩, ?_⟩ | refine ⟨⟨rfl, rfl, rfl, trivial⟩, ?_⟩ | refine ⟨⟨rfl, rfl, rfl, rfl, trivial⟩, ?_⟩ | refine ⟨⟨rfl, rfl, rfl, rfl, rfl, trivial⟩, ?_⟩ | refine AltAnd ?_ ?_)
  all_goals (conv => whnf)
  all_goals refine ⟨_, MCallVC.pr (gT [(2000, 1900), (1001, 1901), (2002, 1902), (2003, 1903)]) (of_ok l hf hw (by omega)) ⟨LE.of rfl, trivial⟩ trivial rfl, ?_⟩
  repeat' ((conv => whnf); first | refine IndepAnd (by kernel_rfl) ?_ | refine TreeAnd (by kernel_rfl) ?_ | refine ⟨rfl, ?_⟩ | refine ⟨by decide, ?_⟩ | refine ⟨trivial, ?_⟩ | refine ⟨⟨rfl, trivial⟩, ?_⟩ | refine ⟨Nat.le_of_ble_eq_true rfl, ?_⟩ | refine ⟨⟨_, rfl, rfl⟩, ?_⟩ | refine ⟨⟨rfl, rfl, trivial⟩, ?_⟩ | refine ⟨⟨rfl, rfl, rfl, trivial⟩, ?_⟩ | refine ⟨⟨rfl, rfl, rfl, rfl, trivial⟩, ?_⟩ | refine ⟨⟨rfl, rfl, rfl, rfl, rfl, trivial⟩, ?_⟩ | refine AltAnd ?_ ?_)
  all_goals (conv => whnf)
  all_goals refine ⟨_, MCallVC.pr (gT [(2000, 1900), (2001, 1901), (2002, 1902), (2003, 1903)]) d2 ⟨LE.of rfl, LE.of rfl, trivial⟩ ⟨.inr (.inl rfl), .inr (.inl rfl), .inr (.inl rfl), .inr (.inl rfl), trivial⟩ rfl, ?_⟩
  repeat' ((conv => whnf); first | refine IndepAnd (by kernel_rfl) ?_ | refine TreeAnd (by kernel_rfl) ?_ | refine ⟨rfl, ?_⟩ | refine ⟨by decide, ?_⟩ | refine ⟨trivial, ?_⟩ | refine ⟨⟨rfl, trivial⟩, ?_⟩ | refine ⟨Nat.le_of_ble_eq_true rfl, ?_⟩ | refine ⟨⟨_, rfl, rfl⟩, ?_⟩ | refine ⟨⟨rfl, rfl, trivial⟩, ?_⟩ | refine ⟨⟨rfl, rfl, rfl, trivial⟩, ?_⟩ | refine ⟨⟨rfl, rfl, rfl, rfl, trivial⟩, ?_⟩ | refine ⟨⟨rfl, rfl, rfl, rfl, rfl, trivial⟩, ?_⟩ | refine AltAnd ?_ ?_)
  all_goals (conv => whnf)
  all_goals exact LEP.refl _
theorem an_opens {l : List Tm} (h : Frm l) {t u x y : Tm} (ht : t ∈ anT l) (e : t.kids = [x, y]) (k : t.kind = 4 ∧ mdT (anT l) x = true ∧ u = y ∨ t.kind = 10 ∧ mdT (anT l) y = true ∧ u = x) : u ∈ anT l := by
  have g := an_gd h t ht
  have gx := gd_kid g (u := x) (by rw [e]; simp)
  have gy := gd_kid g (u := y) (by rw [e]; simp)
  refine h.fin.shut t ht u ?_
  rcases k with ⟨k, hm, rfl⟩ | ⟨k, hm, rfl⟩
  · rw [mdT_eq, gx.2, an_s h] at hm
    unfold givesT wayT
    rw [if_neg (by rw [k]; decide), if_pos k, e]
    simp [hm]
  · rw [mdT_eq, gy.2, an_s h] at hm
    unfold givesT wayT
    rw [if_neg (by rw [k]; decide), if_neg (by rw [k]; decide), if_pos k, e]
    simp [hm]
theorem an_pair {l : List Tm} (h : Frm l) {t u : Tm} (ht : t ∈ anT l) (k : t.kind = 3) (hu : u ∈ t.kids) : u ∈ anT l := by
  refine h.fin.shut t ht u ?_
  unfold givesT wayT
  rw [if_pos k]
  simpa using hu
end Go.Sl
