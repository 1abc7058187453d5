/- ArmorHides: whoever sees what goes under armor, and knows neither host nor KDC, knows nothing of it. -/
import Derived.Test.YtcdbgkcijelopaaDoorLk
set_option linter.unusedVariables false
set_option linter.unusedSimpArgs false
namespace Go.Sl
open Go Go.Vc Go.Proofs Go.RowKit

theorem gd_enc {x y : Tm} (hx : gdT x) (hy : gdT y) (h1 : x.depth ≤ 59) (h2 : y.depth ≤ 59) : gdT (encT x y) :=
  gd_of rfl rfl (.inr rfl) (by decide) (by simp [hx, hy]) (by simp only [Tm.depth, Tm.depths]; omega)
theorem gd_num {k : Tm} {n : Int} (hk : gdT k) (hd : k.depth ≤ 59) : gdT (numT k useW n) := gd_kdf (by simp) hk hd
theorem gd_pack {w : Bs} {l : List Tm} (hw : w ≠ []) (hl : ∀ t ∈ l, gdT t) (hd : Tm.depths l ≤ 59) : gdT (packT w l) := gd_pair (fun t ht => by
  cases ht with
  | head => exact gd_data hw
  | tail _ ht => exact hl t ht) (by simp [Tm.depths, Tm.depth]; omega)
theorem gd_data' (c : UInt8) (s : Bs) : gdT (dataT (c :: s)) := gd_data (by simp)
section
variable (s nonce : Bs)
abbrev kdcH : Tm := atomT kdcW
abbrev hostH : Tm := atomT hostW
abbrev subH : Tm := atomT subsW
abbrev secW : Bs := [115, 101, 99, 114, 101, 116, 32]
abbrev secH : Tm := atomT (secW ++ s)
abbrev bodyH : Tm := dataT [98, 111, 100, 121]
def tickH : Tm := ticketT kdcH hostH
def innH : Tm := sealT hostH 11 (packT authW [subH])
def wrapH : Tm := packT armorW [tickH, innH]
def keyH : Tm := joinT subH hostH subW tickW
def reqH : Tm := reqT keyH bodyH (secH s) (secH s)
def ansH : Tm := ansT keyH nonce (secH s)
abbrev frameH : List Tm := [tickH, wrapH, reqH s, ansH s nonce, bodyH]
theorem g_kdc : gdT kdcH := gd_atom (by simp)
theorem g_host : gdT hostH := gd_atom (by simp)
theorem g_sub : gdT subH := gd_atom (by simp)
theorem g_sec : gdT (secH s) := gd_atom (by simp)
theorem g_key : gdT keyH := join_gd (by simp) (by simp)
theorem d_key : keyH.depth = 4 := by simp [keyH, joinT, Tm.depth, Tm.depths]
theorem g_tick : gdT tickH := gd_enc (gd_num g_kdc (by simp [Tm.depth, Tm.depths])) (gd_pack (by simp) (by simp [g_host]) (by simp [Tm.depth, Tm.depths])) (by simp [numT, Tm.depth, Tm.depths]) (by simp [packT, Tm.depth, Tm.depths])
theorem g_inn : gdT innH := gd_enc (gd_num g_host (by simp [Tm.depth, Tm.depths])) (gd_pack (by simp) (by simp [g_sub]) (by simp [Tm.depth, Tm.depths])) (by simp [numT, Tm.depth, Tm.depths]) (by simp [packT, Tm.depth, Tm.depths])
theorem d_tick : tickH.depth = 3 := by simp [tickH, ticketT, sealT, numT, packT, Tm.depth, Tm.depths]
theorem d_inn : innH.depth = 3 := by simp [innH, sealT, numT, packT, Tm.depth, Tm.depths]
theorem g_wrap : gdT wrapH := gd_pack (by simp) (by simp [g_tick, g_inn]) (by simp [Tm.depths, d_tick, d_inn])
theorem g_req : gdT (reqH s) := gd_enc (gd_num g_key (by rw [d_key]; decide)) (gd_pack (by simp) (by simp [g_sec, gd_hash (gd_data' _ _) (by simp [Tm.depth, Tm.depths])]) (by simp [Tm.depth, Tm.depths])) (by simp [numT, Tm.depth, Tm.depths, d_key]) (by simp [packT, Tm.depth, Tm.depths])
theorem g_ans : gdT (ansH s nonce) := gd_enc (gd_num g_key (by rw [d_key]; decide)) (gd_pack (by simp) (by simp [g_sec, gd_data']) (by simp [Tm.depth, Tm.depths])) (by simp [numT, Tm.depth, Tm.depths, d_key]) (by simp [packT, Tm.depth, Tm.depths])
theorem g_body : gdT bodyH := gd_data' _ _
/-- What can't be opened. -/
def B1 (t : Tm) : Prop := t = tickH ∨ t = innH ∨ t = reqH s ∨ t = ansH s nonce
theorem B1_kind {t : Tm} (h : B1 s nonce t) : t.kind = 4 := by rcases h with rfl | rfl | rfl | rfl <;> rfl
theorem B1_atom {n : Bs} {l : List Tm} (h : Mk (B1 s nonce) (.mk 2 n l)) : False := by have := B1_kind s nonce (mk_atom.1 h).2; simp [Tm.kind] at this
theorem B1_kdf {x : Tm} {n : Bs} (h : Mk (B1 s nonce) (.mk 7 n [x])) : Mk (B1 s nonce) x := by
  rcases ((mk_comp (by decide) (by decide) (by decide)).1 h).2 with h | h
  · have := B1_kind s nonce h; simp [Tm.kind] at this
  · exact h x (List.mem_singleton.2 rfl)
theorem B1_key (h : Mk (B1 s nonce) keyH) : False := by
  rcases ((mk_comp (by decide) (by decide) (by decide)).1 h).2 with h | h
  · have := B1_kind s nonce h; simp [Tm.kind] at this
  · have h := h _ (List.mem_singleton.2 rfl)
    rcases ((mk_comp (by decide) (by decide) (by decide)).1 h).2 with h | h
    · have := B1_kind s nonce h; simp [Tm.kind] at this
    · exact B1_atom s nonce (B1_kdf s nonce (h (kdfT subH (joinW ++ subW)) (by simp)))
theorem B1_apart : Apart (B1 s nonce) := fun t ht _ => by
  have hk := B1_kind s nonce ht
  refine ⟨fun k => by rw [hk] at k; exact absurd k (by decide), fun _ x y e h => ?_, fun k => by rw [hk] at k; exact absurd k (by decide)⟩
  exfalso
  rcases ht with rfl | rfl | rfl | rfl
  · cases e; exact B1_atom s nonce (B1_kdf s nonce h)
  · cases e; exact B1_atom s nonce (B1_kdf s nonce h)
  · cases e; exact B1_key s nonce (B1_kdf s nonce h)
  · cases e; exact B1_key s nonce (B1_kdf s nonce h)
theorem frame_mk {u : Tm} (h : Fr (frameH s nonce) u) : Mk (B1 s nonce) u := by
  obtain ⟨v, hv, rfl⟩ := h
  simp only [List.mem_cons, List.not_mem_nil, or_false] at hv
  rcases hv with rfl | rfl | rfl | rfl | rfl
  · rw [g_tick.2]; exact .base (.inl rfl) g_tick
  · rw [g_wrap.2]
    refine Mk.of g_wrap (by decide) (by decide) (by decide) fun w hw => ?_
    simp only [List.mem_cons, List.not_mem_nil, or_false] at hw
    rcases hw with rfl | rfl | rfl
    · exact .data (gd_data' _ _) rfl
    · exact .base (.inl rfl) g_tick
    · exact .base (.inr (.inl rfl)) g_inn
  · rw [(g_req s).2]; exact .base (.inr (.inr (.inl rfl))) (g_req s)
  · rw [(g_ans s nonce).2]; exact .base (.inr (.inr (.inr rfl))) (g_ans s nonce)
  · rw [g_body.2]; exact .data g_body rfl
theorem hidden {t : Tm} (hc : canT t = t) (h : ¬ Mk (B1 s nonce) t) : knT (frameH s nonce) t = false := by
  rw [← Bool.not_eq_true, knT_iff, hc]
  exact fun hk => h ((hk.cut fun u hu _ => (frame_mk s nonce hu).cl).mk (B1_apart s nonce))
/-- With the host's key. -/
abbrev frame2 : List Tm := frameH s nonce ++ [hostH]
theorem c_host : Cl (Fr (frame2 s nonce)) hostH := .base ⟨_, by simp, g_host.2⟩ g_host
theorem c_inn : Cl (Fr (frame2 s nonce)) innH := .pair (.base ⟨wrapH, by simp, g_wrap.2⟩ g_wrap) rfl (show innH ∈ [_, _, innH] by simp)
theorem c_kdf {x : Tm} {n : Bs} {B : Tm → Prop} (h : Cl B x) (hg : gdT (kdfT x n)) : Cl B (kdfT x n) := .comp hg (show (7 : Int) ≠ 1 by decide) (show (7 : Int) ≠ 2 by decide) (show (7 : Int) ≠ 9 by decide) fun u hu => by
  rw [show u = x by simpa [Tm.kids] using hu]; exact h
theorem c_sub : Cl (Fr (frame2 s nonce)) subH := by
  have h := Cl.enc (c_inn s nonce) rfl rfl (c_kdf (c_host s nonce) (gd_num g_host (by simp [Tm.depth, Tm.depths])))
  exact .pair h rfl (show subH ∈ [_, subH] by simp)
theorem c_key : Cl (Fr (frame2 s nonce)) keyH := by
  refine .comp g_key (by decide) (by decide) (by decide) fun u hu => ?_
  have gu := gd_kid g_key hu
  rw [show u = pairT [kdfT subH (joinW ++ subW), kdfT hostH (joinW ++ tickW)] by simpa [keyH, joinT, Tm.kids] using hu] at gu ⊢
  refine .comp gu (by decide) (by decide) (by decide) fun w hw => ?_
  have gw := gd_kid gu hw
  simp only [Tm.kids, List.mem_cons, List.not_mem_nil, or_false] at hw
  rcases hw with rfl | rfl
  · exact c_kdf (c_sub s nonce) gw
  · exact c_kdf (c_host s nonce) gw
theorem c_sec : Cl (Fr (frame2 s nonce)) (secH s) := by
  have h := Cl.enc (.base ⟨reqH s, by simp, (g_req s).2⟩ (g_req s)) rfl rfl (c_kdf (c_key s nonce) (gd_num g_key (by rw [d_key]; decide)))
  exact .pair h rfl (show secH s ∈ [_, _, secH s, secH s] by simp)
def B2 (t : Tm) : Prop := t = tickH ∨ t = hostH ∨ t = subH ∨ t = secH s
theorem B2_kdc (h : Mk (B2 s) kdcH) : False := by
  rcases (mk_atom.1 h).2 with h | h | h | h
  · simp [tickH, ticketT, sealT] at h
  · simp at h
  · simp at h
  · simp at h
theorem B2_apart : Apart (B2 s) := fun t ht _ => by
  rcases ht with rfl | rfl | rfl | rfl
  · refine ⟨fun k => absurd k (by decide), fun _ x y e h => ?_, fun k => absurd k (by decide)⟩
    exfalso
    cases e
    rcases ((mk_comp (by decide) (by decide) (by decide)).1 h).2 with h | h
    · rcases h with h | h | h | h <;> simp [tickH, ticketT, sealT] at h
    · exact B2_kdc s (h _ (List.mem_singleton.2 rfl))
  · exact ⟨fun k => absurd k (by decide), fun k => absurd k (by decide), fun k => absurd k (by decide)⟩
  · exact ⟨fun k => absurd k (by decide), fun k => absurd k (by decide), fun k => absurd k (by decide)⟩
  · exact ⟨fun k => absurd k (show (2 : Int) ≠ 3 by decide), fun k => absurd k (show (2 : Int) ≠ 4 by decide), fun k => absurd k (show (2 : Int) ≠ 10 by decide)⟩
theorem m_kdf {x : Tm} {n : Bs} {B : Tm → Prop} (h : Mk B x) (hg : gdT (kdfT x n)) : Mk B (kdfT x n) := Mk.of hg (by decide) (by decide) (by decide) fun u hu => by
  rw [List.mem_singleton.1 hu]; exact h
theorem m_key : Mk (B2 s) keyH := by
  refine Mk.of g_key (by decide) (by decide) (by decide) fun u hu => ?_
  have gu := gd_kid g_key (show u ∈ keyH.kids from hu)
  rw [List.mem_singleton.1 hu] at gu ⊢
  refine Mk.of gu (by decide) (by decide) (by decide) fun w hw => ?_
  have gw := gd_kid gu (show w ∈ Tm.kids (pairT [kdfT subH (joinW ++ subW), kdfT hostH (joinW ++ tickW)]) from hw)
  simp only [List.mem_cons, List.not_mem_nil, or_false] at hw
  rcases hw with rfl | rfl
  · exact m_kdf (.base (.inr (.inr (.inl rfl))) g_sub) gw
  · exact m_kdf (.base (.inr (.inl rfl)) g_host) gw
/-- What is shut up under a key that is made. -/
theorem m_seal {B : Tm → Prop} {k : Tm} {n : Int} {w : Bs} {l : List Tm} (hk : Mk B k) (hg : gdT (sealT k n (packT w l))) (hl : ∀ t ∈ l, Mk B t) : Mk B (sealT k n (packT w l)) := by
  have g1 : gdT (numT k useW n) := gd_kid hg (show numT k useW n ∈ [numT k useW n, packT w l] by simp)
  have g2 : gdT (packT w l) := gd_kid hg (show packT w l ∈ [numT k useW n, packT w l] by simp)
  refine Mk.of hg (by decide) (by decide) (by decide) fun u hu => ?_
  simp only [List.mem_cons, List.not_mem_nil, or_false] at hu
  rcases hu with rfl | rfl
  · exact m_kdf hk g1
  · refine Mk.of g2 (by decide) (by decide) (by decide) fun v hv => ?_
    have gv := gd_kid g2 (show v ∈ Tm.kids (packT w l) from hv)
    cases hv with
    | head => exact .data gv rfl
    | tail _ hv => exact hl v hv
theorem frame2_mk {u : Tm} (h : Fr (frame2 s nonce) u) : Mk (B2 s) u := by
  have hs : Mk (B2 s) (secH s) := .base (.inr (.inr (.inr rfl))) (g_sec s)
  obtain ⟨v, hv, rfl⟩ := h
  simp only [List.cons_append, List.nil_append, List.mem_cons, List.not_mem_nil, or_false] at hv
  rcases hv with rfl | rfl | rfl | rfl | rfl | rfl
  · rw [g_tick.2]; exact .base (.inl rfl) g_tick
  · rw [g_wrap.2]
    refine Mk.of g_wrap (by decide) (by decide) (by decide) fun w hw => ?_
    simp only [List.mem_cons, List.not_mem_nil, or_false] at hw
    rcases hw with rfl | rfl | rfl
    · exact .data (gd_data' _ _) rfl
    · exact .base (.inl rfl) g_tick
    · refine m_seal (.base (.inr (.inl rfl)) g_host) g_inn ?_
      simp only [List.mem_singleton, forall_eq]
      exact .base (.inr (.inr (.inl rfl))) g_sub
  · rw [(g_req s).2]
    refine m_seal (m_key s) (g_req s) ?_
    simp only [List.mem_cons, List.not_mem_nil, or_false, forall_eq_or_imp, forall_eq]
    have gh : gdT (hashT bodyH) := gd_hash g_body (by simp [Tm.depth, Tm.depths])
    refine ⟨Mk.of gh (by decide) (by decide) (by decide) fun u hu => ?_, hs, hs⟩
    rw [List.mem_singleton.1 hu]; exact .data g_body rfl
  · rw [(g_ans s nonce).2]
    refine m_seal (m_key s) (g_ans s nonce) ?_
    simp only [List.mem_cons, List.not_mem_nil, or_false, forall_eq_or_imp, forall_eq]
    exact ⟨.data (gd_data' _ _) rfl, hs⟩
  · rw [g_body.2]; exact .data g_body rfl
  · rw [g_host.2]; exact .base (.inr (.inl rfl)) g_host
theorem kdc_no : knT (frame2 s nonce) kdcH = false := by
  rw [← Bool.not_eq_true, knT_iff, g_kdc.2]
  exact fun hk => B2_kdc s ((hk.cut fun u hu _ => (frame2_mk s nonce hu).cl).mk (B2_apart s))
theorem told {t : Tm} (hg : gdT t) (h : Cl (Fr (frame2 s nonce)) t) : knT (frame2 s nonce) t = true := by rw [knT_iff, hg.2]; exact h
end
theorem hides_ok (s nonce : Bs) (hs : s.length ≤ 1048576) (hn : nonce.length ≤ 1048576) : K true 13 [sv s, sv nonce] (.pv (.bool true)) := by
  have fk : Fit kdcH := Fit.data 2 (by simp)
  have fh : Fit hostH := Fit.data 2 (by simp)
  have fu : Fit subH := Fit.data 2 (by simp)
  have fs : Fit (secH s) := Fit.data 2 (by simp; omega)
  have fb : Fit bodyH := Fit.data 1 (by simp)
  have ft : Fit tickH := Fit.ticket fk fh
  have fw : Fit wrapH := Fit.wrap ft fh fu
  have fy : Fit keyH := fu.join fh (by simp) (by simp)
  have fr : Fit (reqH s) := fy.req fb fs fs
  have fa : Fit (ansH s nonce) := fy.ans fs (by omega)
  have i2 := itoa_len (n := 2) (by decide) (by decide)
  have i11 := itoa_len (n := 11) (by decide) (by decide)
  have i51 := itoa_len (n := 51) (by decide) (by decide)
  have i52 := itoa_len (n := 52) (by decide) (by decide)
  have wt1 : wt tickH ≤ 1000000 := by simp [tickH, ticketT, sealT, numT, packT, wt, wts]; omega
  have wi1 : wt innH ≤ 1000000 := by simp [innH, sealT, numT, packT, wt, wts]; omega
  have ww : wt wrapH ≤ 10000000 := by simp [wrapH, packT, wt, wts]; omega
  have wk : wt keyH ≤ 1000000 := by simp [keyH, joinT, wt, wts]
  have wr : wt (reqH s) ≤ 100000000 := by simp [reqH, reqT, sealT, numT, packT, wt, wts]; omega
  have wan : wt (ansH s nonce) ≤ 100000000 := by simp [ansH, ansT, sealT, numT, packT, wt, wts]; omega
  have F1 : ∀ t ∈ frameH s nonce, Fit t ∧ wt t ≤ 1000000000 := fun t ht => by
    simp only [List.mem_cons, List.not_mem_nil, or_false] at ht
    rcases ht with rfl | rfl | rfl | rfl | rfl
    · exact ⟨ft, by omega⟩
    · exact ⟨fw, by omega⟩
    · exact ⟨fr, by omega⟩
    · exact ⟨fa, by omega⟩
    · exact ⟨fb, by simp [wt, wts]⟩
  have F2 : ∀ t ∈ frame2 s nonce, Fit t ∧ wt t ≤ 1000000000 := fun t ht => by
    rcases List.mem_append.1 ht with h | h
    · exact F1 t h
    · rw [List.mem_singleton.1 h]; exact ⟨fh, by simp [wt, wts]⟩
  have z1 : Tm.sizes (frameH s nonce) ≤ 1000 := by simp [reqH, reqT, ansH, ansT, wrapH, tickH, innH, ticketT, keyH, joinT, sealT, numT, packT, Tm.size, Tm.sizes]
  have z2 : Tm.sizes (frame2 s nonce) ≤ 2000 := by rw [Tm.sizes_append]; simp only [Tm.sizes, Tm.size] at z1 ⊢; omega
  have kn1 : ∀ t, gdT t → Fit t → wt t ≤ 1000000000 → ¬ Mk (B1 s nonce) t → K true 63 [.p (.lst [TV tickH, TV wrapH, TV (reqH s), TV (ansH s nonce), TV bodyH]), tv t] (.pv (.bool false)) := fun t hg f w h =>
    knowsL_ok (l := frameH s nonce) (tmvs_eq (frameH s nonce)).symm (hidden s nonce hg.2 h) (fun t ht => (F1 t ht).1) (fun t ht => (F1 t ht).2) (by omega) (by simp) f w
  have kn2 : ∀ t v, gdT t → Fit t → wt t ≤ 1000000000 → knT (frame2 s nonce) t = v → K true 63 [.p (.lst ([TV tickH, TV wrapH, TV (reqH s), TV (ansH s nonce), TV bodyH] ++ [TV hostH])), tv t] (.pv (.bool v)) := fun t v hg f w h =>
    knowsL_ok (l := frame2 s nonce) (tmvs_eq (frame2 s nonce)).symm h (fun t ht => (F2 t ht).1) (fun t ht => (F2 t ht).2) z2 (by simp) f w
  have ho : K true 30 [tv kdcH, tv wrapH] (.tup [TV keyH, .int .i64 0]) := by
    have := open_ok true kdcH wrapH fw
    have e : openT kdcH wrapH = (keyH, 0) := open_wrap kdcH hostH subH
    rw [e] at this
    exact this
  have na1 : ∀ n, ¬ Mk (B1 s nonce) (atomT n) := fun n h => B1_atom s nonce h
  refine PC_of_vc (cx_ok true) (mixed true) { own := fun q => Nat.beq q 50 || Nat.beq q 72 } Tryd.func13 (by kernel_rfl) rfl rfl (by kernel_rfl) ?_
  repeat (conv => whnf); first | refine IndepAnd (by kernel_rfl) ?_ | refine TreeAnd (by kernel_rfl) ?_ | refine ⟨rfl, ?_⟩ | refine ⟨by decide, ?_⟩ | refine ⟨trivial, ?_⟩ | refine ⟨⟨rfl, trivial⟩, ?_⟩ | refine ⟨Nat.le_of_ble_eq_true rfl, ?_⟩ | refine ⟨⟨_, rfl, rfl⟩, ?_⟩ | refine ⟨⟨rfl, rfl, trivial⟩, ?_⟩ | refine ⟨⟨rfl, rfl, rfl, trivial⟩, ?_⟩ | refine ⟨⟨rfl, rfl, rfl, rfl, trivial⟩, ?_⟩ | refine ⟨⟨rfl, rfl, rfl, rfl, rfl, trivial⟩, ?_⟩
  conv => whnf
  refine ⟨_, CallVC.pr (shown16_ok true) rfl rfl, ?_⟩
  repeat (conv => whnf); first | refine IndepAnd (by kernel_rfl) ?_ | refine TreeAnd (by kernel_rfl) ?_ | refine ⟨rfl, ?_⟩ | refine ⟨by decide, ?_⟩ | refine ⟨trivial, ?_⟩ | refine ⟨⟨rfl, trivial⟩, ?_⟩ | refine ⟨Nat.le_of_ble_eq_true rfl, ?_⟩ | refine ⟨⟨_, rfl, rfl⟩, ?_⟩ | refine ⟨⟨rfl, rfl, trivial⟩, ?_⟩ | refine ⟨⟨rfl, rfl, rfl, trivial⟩, ?_⟩ | refine ⟨⟨rfl, rfl, rfl, rfl, trivial⟩, ?_⟩ | refine ⟨⟨rfl, rfl, rfl, rfl, rfl, trivial⟩, ?_⟩
  conv => whnf
  refine ⟨by show 7 + s.length ≤ _; omega, ?_⟩
  repeat (conv => whnf); first | refine IndepAnd (by kernel_rfl) ?_ | refine TreeAnd (by kernel_rfl) ?_ | refine ⟨rfl, ?_⟩ | refine ⟨by decide, ?_⟩ | refine ⟨trivial, ?_⟩ | refine ⟨⟨rfl, trivial⟩, ?_⟩ | refine ⟨Nat.le_of_ble_eq_true rfl, ?_⟩ | refine ⟨⟨_, rfl, rfl⟩, ?_⟩ | refine ⟨⟨rfl, rfl, trivial⟩, ?_⟩ | refine ⟨⟨rfl, rfl, rfl, trivial⟩, ?_⟩ | refine ⟨⟨rfl, rfl, rfl, rfl, trivial⟩, ?_⟩ | refine ⟨⟨rfl, rfl, rfl, rfl, rfl, trivial⟩, ?_⟩
  conv => whnf
  refine ⟨_, CallVC.pr (atom16_ok true (secW ++ s)) rfl rfl, ?_⟩
  repeat (conv => whnf); first | refine IndepAnd (by kernel_rfl) ?_ | refine TreeAnd (by kernel_rfl) ?_ | refine ⟨rfl, ?_⟩ | refine ⟨by decide, ?_⟩ | refine ⟨trivial, ?_⟩ | refine ⟨⟨rfl, trivial⟩, ?_⟩ | refine ⟨Nat.le_of_ble_eq_true rfl, ?_⟩ | refine ⟨⟨_, rfl, rfl⟩, ?_⟩ | refine ⟨⟨rfl, rfl, trivial⟩, ?_⟩ | refine ⟨⟨rfl, rfl, rfl, trivial⟩, ?_⟩ | refine ⟨⟨rfl, rfl, rfl, rfl, trivial⟩, ?_⟩ | refine ⟨⟨rfl, rfl, rfl, rfl, rfl, trivial⟩, ?_⟩
  conv => whnf
  refine ⟨_, CallVC.pr (atom16_ok true kdcW) rfl rfl, ?_⟩
  repeat (conv => whnf); first | refine IndepAnd (by kernel_rfl) ?_ | refine TreeAnd (by kernel_rfl) ?_ | refine ⟨rfl, ?_⟩ | refine ⟨by decide, ?_⟩ | refine ⟨trivial, ?_⟩ | refine ⟨⟨rfl, trivial⟩, ?_⟩ | refine ⟨Nat.le_of_ble_eq_true rfl, ?_⟩ | refine ⟨⟨_, rfl, rfl⟩, ?_⟩ | refine ⟨⟨rfl, rfl, trivial⟩, ?_⟩ | refine ⟨⟨rfl, rfl, rfl, trivial⟩, ?_⟩ | refine ⟨⟨rfl, rfl, rfl, rfl, trivial⟩, ?_⟩ | refine ⟨⟨rfl, rfl, rfl, rfl, rfl, trivial⟩, ?_⟩
  conv => whnf
  refine ⟨_, CallVC.pr (atom16_ok true hostW) rfl rfl, ?_⟩
  repeat (conv => whnf); first | refine IndepAnd (by kernel_rfl) ?_ | refine TreeAnd (by kernel_rfl) ?_ | refine ⟨rfl, ?_⟩ | refine ⟨by decide, ?_⟩ | refine ⟨trivial, ?_⟩ | refine ⟨⟨rfl, trivial⟩, ?_⟩ | refine ⟨Nat.le_of_ble_eq_true rfl, ?_⟩ | refine ⟨⟨_, rfl, rfl⟩, ?_⟩ | refine ⟨⟨rfl, rfl, trivial⟩, ?_⟩ | refine ⟨⟨rfl, rfl, rfl, trivial⟩, ?_⟩ | refine ⟨⟨rfl, rfl, rfl, rfl, trivial⟩, ?_⟩ | refine ⟨⟨rfl, rfl, rfl, rfl, rfl, trivial⟩, ?_⟩
  conv => whnf
  refine ⟨_, CallVC.pr (atom16_ok true subsW) rfl rfl, ?_⟩
  repeat (conv => whnf); first | refine IndepAnd (by kernel_rfl) ?_ | refine TreeAnd (by kernel_rfl) ?_ | refine ⟨rfl, ?_⟩ | refine ⟨by decide, ?_⟩ | refine ⟨trivial, ?_⟩ | refine ⟨⟨rfl, trivial⟩, ?_⟩ | refine ⟨Nat.le_of_ble_eq_true rfl, ?_⟩ | refine ⟨⟨_, rfl, rfl⟩, ?_⟩ | refine ⟨⟨rfl, rfl, trivial⟩, ?_⟩ | refine ⟨⟨rfl, rfl, rfl, trivial⟩, ?_⟩ | refine ⟨⟨rfl, rfl, rfl, rfl, trivial⟩, ?_⟩ | refine ⟨⟨rfl, rfl, rfl, rfl, rfl, trivial⟩, ?_⟩
  conv => whnf
  refine ⟨_, CallVC.pr (show K true 19 [tv kdcH, tv hostH] (.pv (TV tickH)) from ticket_ok true kdcH hostH) rfl rfl, ?_⟩
  repeat (conv => whnf); first | refine IndepAnd (by kernel_rfl) ?_ | refine TreeAnd (by kernel_rfl) ?_ | refine ⟨rfl, ?_⟩ | refine ⟨by decide, ?_⟩ | refine ⟨trivial, ?_⟩ | refine ⟨⟨rfl, trivial⟩, ?_⟩ | refine ⟨Nat.le_of_ble_eq_true rfl, ?_⟩ | refine ⟨⟨_, rfl, rfl⟩, ?_⟩ | refine ⟨⟨rfl, rfl, trivial⟩, ?_⟩ | refine ⟨⟨rfl, rfl, rfl, trivial⟩, ?_⟩ | refine ⟨⟨rfl, rfl, rfl, rfl, trivial⟩, ?_⟩ | refine ⟨⟨rfl, rfl, rfl, rfl, rfl, trivial⟩, ?_⟩
  conv => whnf
  refine ⟨_, CallVC.pr (show K true 21 [tv tickH, tv hostH, tv subH] (.pv (TV wrapH)) from wrap_ok true tickH hostH subH) rfl rfl, ?_⟩
  repeat (conv => whnf); first | refine IndepAnd (by kernel_rfl) ?_ | refine TreeAnd (by kernel_rfl) ?_ | refine ⟨rfl, ?_⟩ | refine ⟨by decide, ?_⟩ | refine ⟨trivial, ?_⟩ | refine ⟨⟨rfl, trivial⟩, ?_⟩ | refine ⟨Nat.le_of_ble_eq_true rfl, ?_⟩ | refine ⟨⟨_, rfl, rfl⟩, ?_⟩ | refine ⟨⟨rfl, rfl, trivial⟩, ?_⟩ | refine ⟨⟨rfl, rfl, rfl, trivial⟩, ?_⟩ | refine ⟨⟨rfl, rfl, rfl, rfl, trivial⟩, ?_⟩ | refine ⟨⟨rfl, rfl, rfl, rfl, rfl, trivial⟩, ?_⟩
  conv => whnf
  refine ⟨_, CallVC.pr ho rfl rfl, ?_⟩
  repeat (conv => whnf); first | refine IndepAnd (by kernel_rfl) ?_ | refine TreeAnd (by kernel_rfl) ?_ | refine ⟨rfl, ?_⟩ | refine ⟨by decide, ?_⟩ | refine ⟨trivial, ?_⟩ | refine ⟨⟨rfl, trivial⟩, ?_⟩ | refine ⟨Nat.le_of_ble_eq_true rfl, ?_⟩ | refine ⟨⟨_, rfl, rfl⟩, ?_⟩ | refine ⟨⟨rfl, rfl, trivial⟩, ?_⟩ | refine ⟨⟨rfl, rfl, rfl, trivial⟩, ?_⟩ | refine ⟨⟨rfl, rfl, rfl, rfl, trivial⟩, ?_⟩ | refine ⟨⟨rfl, rfl, rfl, rfl, rfl, trivial⟩, ?_⟩
  conv => whnf
  refine ⟨_, CallVC.pr (data10_ok true [98, 111, 100, 121]) rfl rfl, ?_⟩
  repeat (conv => whnf); first | refine IndepAnd (by kernel_rfl) ?_ | refine TreeAnd (by kernel_rfl) ?_ | refine ⟨rfl, ?_⟩ | refine ⟨by decide, ?_⟩ | refine ⟨trivial, ?_⟩ | refine ⟨⟨rfl, trivial⟩, ?_⟩ | refine ⟨Nat.le_of_ble_eq_true rfl, ?_⟩ | refine ⟨⟨_, rfl, rfl⟩, ?_⟩ | refine ⟨⟨rfl, rfl, trivial⟩, ?_⟩ | refine ⟨⟨rfl, rfl, rfl, trivial⟩, ?_⟩ | refine ⟨⟨rfl, rfl, rfl, rfl, trivial⟩, ?_⟩ | refine ⟨⟨rfl, rfl, rfl, rfl, rfl, trivial⟩, ?_⟩
  conv => whnf
  refine ⟨_, CallVC.pr (show K true 23 [tv keyH, tv bodyH, tv (secH s), tv (secH s)] (.pv (TV (reqH s))) from req_ok true keyH bodyH (secH s) (secH s)) rfl rfl, ?_⟩
  repeat (conv => whnf); first | refine IndepAnd (by kernel_rfl) ?_ | refine TreeAnd (by kernel_rfl) ?_ | refine ⟨rfl, ?_⟩ | refine ⟨by decide, ?_⟩ | refine ⟨trivial, ?_⟩ | refine ⟨⟨rfl, trivial⟩, ?_⟩ | refine ⟨Nat.le_of_ble_eq_true rfl, ?_⟩ | refine ⟨⟨_, rfl, rfl⟩, ?_⟩ | refine ⟨⟨rfl, rfl, trivial⟩, ?_⟩ | refine ⟨⟨rfl, rfl, rfl, trivial⟩, ?_⟩ | refine ⟨⟨rfl, rfl, rfl, rfl, trivial⟩, ?_⟩ | refine ⟨⟨rfl, rfl, rfl, rfl, rfl, trivial⟩, ?_⟩
  conv => whnf
  refine ⟨_, CallVC.pr (show K true 25 [tv keyH, sv nonce, tv (secH s)] (.pv (TV (ansH s nonce))) from ans_ok true keyH nonce (secH s) (by omega)) rfl rfl, ?_⟩
  repeat (conv => whnf); first | refine IndepAnd (by kernel_rfl) ?_ | refine TreeAnd (by kernel_rfl) ?_ | refine ⟨rfl, ?_⟩ | refine ⟨by decide, ?_⟩ | refine ⟨trivial, ?_⟩ | refine ⟨⟨rfl, trivial⟩, ?_⟩ | refine ⟨Nat.le_of_ble_eq_true rfl, ?_⟩ | refine ⟨⟨_, rfl, rfl⟩, ?_⟩ | refine ⟨⟨rfl, rfl, trivial⟩, ?_⟩ | refine ⟨⟨rfl, rfl, rfl, trivial⟩, ?_⟩ | refine ⟨⟨rfl, rfl, rfl, rfl, trivial⟩, ?_⟩ | refine ⟨⟨rfl, rfl, rfl, rfl, rfl, trivial⟩, ?_⟩
  conv => whnf
  refine ⟨_, CallVC.pr (kn1 (secH s) (g_sec s) fs (by simp [wt, wts]; omega) (na1 _)) rfl rfl, ?_⟩
  repeat (conv => whnf); first | refine IndepAnd (by kernel_rfl) ?_ | refine TreeAnd (by kernel_rfl) ?_ | refine ⟨rfl, ?_⟩ | refine ⟨by decide, ?_⟩ | refine ⟨trivial, ?_⟩ | refine ⟨⟨rfl, trivial⟩, ?_⟩ | refine ⟨Nat.le_of_ble_eq_true rfl, ?_⟩ | refine ⟨⟨_, rfl, rfl⟩, ?_⟩ | refine ⟨⟨rfl, rfl, trivial⟩, ?_⟩ | refine ⟨⟨rfl, rfl, rfl, trivial⟩, ?_⟩ | refine ⟨⟨rfl, rfl, rfl, rfl, trivial⟩, ?_⟩ | refine ⟨⟨rfl, rfl, rfl, rfl, rfl, trivial⟩, ?_⟩
  conv => whnf
  refine ⟨_, CallVC.pr (kn1 keyH g_key fy (by omega) (B1_key s nonce)) rfl rfl, ?_⟩
  repeat (conv => whnf); first | refine IndepAnd (by kernel_rfl) ?_ | refine TreeAnd (by kernel_rfl) ?_ | refine ⟨rfl, ?_⟩ | refine ⟨by decide, ?_⟩ | refine ⟨trivial, ?_⟩ | refine ⟨⟨rfl, trivial⟩, ?_⟩ | refine ⟨Nat.le_of_ble_eq_true rfl, ?_⟩ | refine ⟨⟨_, rfl, rfl⟩, ?_⟩ | refine ⟨⟨rfl, rfl, trivial⟩, ?_⟩ | refine ⟨⟨rfl, rfl, rfl, trivial⟩, ?_⟩ | refine ⟨⟨rfl, rfl, rfl, rfl, trivial⟩, ?_⟩ | refine ⟨⟨rfl, rfl, rfl, rfl, rfl, trivial⟩, ?_⟩
  conv => whnf
  refine ⟨_, CallVC.pr (kn1 subH g_sub fu (by simp [wt, wts]) (na1 _)) rfl rfl, ?_⟩
  repeat (conv => whnf); first | refine IndepAnd (by kernel_rfl) ?_ | refine TreeAnd (by kernel_rfl) ?_ | refine ⟨rfl, ?_⟩ | refine ⟨by decide, ?_⟩ | refine ⟨trivial, ?_⟩ | refine ⟨⟨rfl, trivial⟩, ?_⟩ | refine ⟨Nat.le_of_ble_eq_true rfl, ?_⟩ | refine ⟨⟨_, rfl, rfl⟩, ?_⟩ | refine ⟨⟨rfl, rfl, trivial⟩, ?_⟩ | refine ⟨⟨rfl, rfl, rfl, trivial⟩, ?_⟩ | refine ⟨⟨rfl, rfl, rfl, rfl, trivial⟩, ?_⟩ | refine ⟨⟨rfl, rfl, rfl, rfl, rfl, trivial⟩, ?_⟩
  conv => whnf
  refine ⟨_, CallVC.pr (kn1 hostH g_host fh (by simp [wt, wts]) (na1 _)) rfl rfl, ?_⟩
  repeat (conv => whnf); first | refine IndepAnd (by kernel_rfl) ?_ | refine TreeAnd (by kernel_rfl) ?_ | refine ⟨rfl, ?_⟩ | refine ⟨by decide, ?_⟩ | refine ⟨trivial, ?_⟩ | refine ⟨⟨rfl, trivial⟩, ?_⟩ | refine ⟨Nat.le_of_ble_eq_true rfl, ?_⟩ | refine ⟨⟨_, rfl, rfl⟩, ?_⟩ | refine ⟨⟨rfl, rfl, trivial⟩, ?_⟩ | refine ⟨⟨rfl, rfl, rfl, trivial⟩, ?_⟩ | refine ⟨⟨rfl, rfl, rfl, rfl, trivial⟩, ?_⟩ | refine ⟨⟨rfl, rfl, rfl, rfl, rfl, trivial⟩, ?_⟩
  conv => whnf
  refine ⟨_, CallVC.pr (kn2 (secH s) true (g_sec s) fs (by simp [wt, wts]; omega) (told s nonce (g_sec s) (c_sec s nonce))) rfl rfl, ?_⟩
  repeat (conv => whnf); first | refine IndepAnd (by kernel_rfl) ?_ | refine TreeAnd (by kernel_rfl) ?_ | refine ⟨rfl, ?_⟩ | refine ⟨by decide, ?_⟩ | refine ⟨trivial, ?_⟩ | refine ⟨⟨rfl, trivial⟩, ?_⟩ | refine ⟨Nat.le_of_ble_eq_true rfl, ?_⟩ | refine ⟨⟨_, rfl, rfl⟩, ?_⟩ | refine ⟨⟨rfl, rfl, trivial⟩, ?_⟩ | refine ⟨⟨rfl, rfl, rfl, trivial⟩, ?_⟩ | refine ⟨⟨rfl, rfl, rfl, rfl, trivial⟩, ?_⟩ | refine ⟨⟨rfl, rfl, rfl, rfl, rfl, trivial⟩, ?_⟩
  conv => whnf
  refine ⟨_, CallVC.pr (kn2 keyH true g_key fy (by omega) (told s nonce g_key (c_key s nonce))) rfl rfl, ?_⟩
  repeat (conv => whnf); first | refine IndepAnd (by kernel_rfl) ?_ | refine TreeAnd (by kernel_rfl) ?_ | refine ⟨rfl, ?_⟩ | refine ⟨by decide, ?_⟩ | refine ⟨trivial, ?_⟩ | refine ⟨⟨rfl, trivial⟩, ?_⟩ | refine ⟨Nat.le_of_ble_eq_true rfl, ?_⟩ | refine ⟨⟨_, rfl, rfl⟩, ?_⟩ | refine ⟨⟨rfl, rfl, trivial⟩, ?_⟩ | refine ⟨⟨rfl, rfl, rfl, trivial⟩, ?_⟩ | refine ⟨⟨rfl, rfl, rfl, rfl, trivial⟩, ?_⟩ | refine ⟨⟨rfl, rfl, rfl, rfl, rfl, trivial⟩, ?_⟩
  conv => whnf
  refine ⟨_, CallVC.pr (kn2 subH true g_sub fu (by simp [wt, wts]) (told s nonce g_sub (c_sub s nonce))) rfl rfl, ?_⟩
  repeat (conv => whnf); first | refine IndepAnd (by kernel_rfl) ?_ | refine TreeAnd (by kernel_rfl) ?_ | refine ⟨rfl, ?_⟩ | refine ⟨by decide, ?_⟩ | refine ⟨trivial, ?_⟩ | refine ⟨⟨rfl, trivial⟩, ?_⟩ | refine ⟨Nat.le_of_ble_eq_true rfl, ?_⟩ | refine ⟨⟨_, rfl, rfl⟩, ?_⟩ | refine ⟨⟨rfl, rfl, trivial⟩, ?_⟩ | refine ⟨⟨rfl, rfl, rfl, trivial⟩, ?_⟩ | refine ⟨⟨rfl, rfl, rfl, rfl, trivial⟩, ?_⟩ | refine ⟨⟨rfl, rfl, rfl, rfl, rfl, trivial⟩, ?_⟩
  conv => whnf
  refine ⟨_, CallVC.pr (kn2 kdcH false g_kdc fk (by simp [wt, wts]) (kdc_no s nonce)) rfl rfl, ?_⟩
  repeat (conv => whnf); first | refine IndepAnd (by kernel_rfl) ?_ | refine TreeAnd (by kernel_rfl) ?_ | refine ⟨rfl, ?_⟩ | refine ⟨by decide, ?_⟩ | refine ⟨trivial, ?_⟩ | refine ⟨⟨rfl, trivial⟩, ?_⟩ | refine ⟨Nat.le_of_ble_eq_true rfl, ?_⟩ | refine ⟨⟨_, rfl, rfl⟩, ?_⟩ | refine ⟨⟨rfl, rfl, trivial⟩, ?_⟩ | refine ⟨⟨rfl, rfl, rfl, trivial⟩, ?_⟩ | refine ⟨⟨rfl, rfl, rfl, rfl, trivial⟩, ?_⟩ | refine ⟨⟨rfl, rfl, rfl, rfl, rfl, trivial⟩, ?_⟩
  conv => whnf
  exact LEP.refl _
end Go.Sl
