/- The statement TopTickets, without a condition: a ticket of one KDC is none of another one's. Part 14: Yp Za. -/
import Derived.Test.YteicafhbhdliaaaGreatDoorPam
set_option linter.unusedSimpArgs false
set_option linter.unusedVariables false
set_option maxHeartbeats 4000000
namespace Go.Sl
open Go Go.Vc Go.Proofs Go.RowKit
structure G (d w s : Nat) (t : Tm) : Prop where
 shp : t.shp = true
 dep : t.depth ≤ d
 wt : wt t ≤ w
 sz : t.size ≤ s
structure GL (d w s : Nat) (l : List Tm) : Prop where
 shp : ∀ t ∈ l, t.shp = true
 dep : Tm.depths l ≤ d
 wt : wts l ≤ w
 sz : Tm.sizes l ≤ s
theorem G.mono {d w s d' w' s' : Nat} {t : Tm} (h : G d w s t) (hd : d ≤ d') (hw : w ≤ w') (hs : s ≤ s') : G d' w' s' t :=
 ⟨h.shp, Nat.le_trans h.dep hd, Nat.le_trans h.wt hw, Nat.le_trans h.sz hs⟩
theorem GL.nil {d : Nat} : GL d 0 0 [] := ⟨fun t h => (by cases h), Nat.zero_le _, Nat.le_refl _, Nat.le_refl _⟩
theorem GL.cons {d w s w' s' : Nat} {t : Tm} {l : List Tm} (h : G d w s t) (hl : GL d w' s' l) : GL d (w + w') (s + s') (t :: l) :=
 ⟨fun u hu => by
  rcases List.mem_cons.1 hu with rfl | hu
  ·exact h.shp
  ·exact hl.shp u hu, by simp only [Tm.depths]; have := h.dep; have := hl.dep; omega, by simp only [wts]; have := h.wt; have := hl.wt; omega, by simp only [Tm.sizes]; have := h.sz; have := hl.sz; omega⟩
theorem G.of {d w s : Nat} {k : Int} {n : Bs} {l : List Tm} (hk : Tm.known k = true) (hn : (Tm.named k == !n.isEmpty) = true) (ha : Tm.arity k < 0 ∨ (l.length : Int) = Tm.arity k) (hl : GL d w s l) : G (d + 1) (w + n.length + 1) (s + 1) (.mk k n l) :=
 ⟨(shp_mk _).2 ⟨⟨hk, hn, ha⟩, hl.shp⟩, by simp only [Tm.depth]; have := hl.dep; omega, by rw [wt_eq]; have := hl.wt; show n.length + wts l + 1 ≤ _; omega, by simp only [Tm.size]; have := hl.sz; omega⟩
theorem nonempty_name {n : Bs} (h : n ≠ []) (k : Int) (hk : Tm.named k = true) : (Tm.named k == !n.isEmpty) = true := by
 rw [hk]
 cases n with
 | nil => exact absurd rfl h
 | cons => rfl
theorem G.data {d w s : Nat} {n : Bs} (h : n ≠ []) (hd : 1 ≤ d) (hw : n.length + 1 ≤ w) (hs : 1 ≤ s) : G d w s (dataT n) :=
 (G.of (d := 0) (by decide) (nonempty_name h 1 rfl) (.inr rfl) GL.nil).mono hd (by omega) hs
theorem G.atom {d w s : Nat} {n : Bs} (h : n ≠ []) (hd : 1 ≤ d) (hw : n.length + 1 ≤ w) (hs : 1 ≤ s) : G d w s (atomT n) :=
 (G.of (d := 0) (by decide) (nonempty_name h 2 rfl) (.inr rfl) GL.nil).mono hd (by omega) hs
theorem G.pair {d w s : Nat} {l : List Tm} (hl : GL d w s l) : G (d + 1) (w + 1) (s + 1) (pairT l) := G.of (k := 3) (n := []) (by decide) (by decide) (.inl (by decide)) hl
theorem G.enc {d w s w' s' : Nat} {k t : Tm} (h : G d w s k) (h' : G d w' s' t) : G (d + 1) (w + w' + 1) (s + s' + 1) (encT k t) :=
 (G.of (by decide) (by decide) (.inr rfl) (GL.cons h (GL.cons h' GL.nil))).mono (Nat.le_refl _) (by simp only [List.length_nil]; omega) (by omega)
theorem G.hash {d w s : Nat} {t : Tm} (h : G d w s t) : G (d + 1) (w + 1) (s + 1) (hashT t) :=
 (G.of (by decide) (by decide) (.inr rfl) (GL.cons h GL.nil)).mono (Nat.le_refl _) (by simp only [List.length_nil]; omega) (by omega)
theorem G.kdf {d w s : Nat} {t : Tm} {n : Bs} (hn : n ≠ []) (h : G d w s t) : G (d + 1) (w + n.length + 1) (s + 1) (kdfT t n) :=
 (G.of (by decide) (nonempty_name hn 7 rfl) (.inr rfl) (GL.cons h GL.nil)).mono (Nat.le_refl _) (by omega) (by omega)
theorem G.pub {d w s : Nat} {t : Tm} (h : G d w s t) : G (d + 1) (w + 1) (s + 1) (.mk 8 [] [t]) :=
 (G.of (by decide) (by decide) (.inr rfl) (GL.cons h GL.nil)).mono (Nat.le_refl _) (by simp only [List.length_nil]; omega) (by omega)
theorem G.mask {d w s w' s' : Nat} {k t : Tm} (h : G d w s k) (h' : G d w' s' t) : G (d + 1) (w + w' + 1) (s + s' + 1) (.mk 10 [] [k, t]) :=
 (G.of (by decide) (by decide) (.inr rfl) (GL.cons h (GL.cons h' GL.nil))).mono (Nat.le_refl _) (by simp only [List.length_nil]; omega) (by omega)
theorem G.share {d w s w' s' : Nat} {x y : Tm} (h : G d w s x) (h' : G d w' s' y) : G (d + 1) (w + w' + 1) (s + s' + 1) (shareT x y) := by
 unfold shareT
 split
 ·exact (G.of (by decide) (by decide) (.inr rfl) (GL.cons h' (GL.cons h GL.nil))).mono (Nat.le_refl _) (by simp only [List.length_nil]; omega) (by omega)
 ·exact (G.of (by decide) (by decide) (.inr rfl) (GL.cons h (GL.cons h' GL.nil))).mono (Nat.le_refl _) (by simp only [List.length_nil]; omega) (by omega)
theorem G.pack {d w s : Nat} {tag : Bs} {l : List Tm} (ht : tag ≠ []) (hd : 1 ≤ d) (hl : GL d w s l) : G (d + 1) (w + tag.length + 2) (s + 2) (packT tag l) :=
 (G.pair (GL.cons (G.data (d := d) ht hd (Nat.le_refl _) (Nat.le_refl _)) hl)).mono (Nat.le_refl _) (by omega) (by omega)
theorem itoa_len30 {n : Int} (h0 : -9223372036854775808 ≤ n) (h1 : n ≤ 9223372036854775807) : (Lib.itoa n).length ≤ 30 := by
 have := itoa_len h0 h1
 omega
theorem G.num {d w s : Nat} {k : Tm} {what : Bs} {n : Int} (h : G d w s k) (h0 : -9223372036854775808 ≤ n) (h1 : n ≤ 9223372036854775807) : G (d + 1) (w + what.length + 40) (s + 1) (numT k what n) := by
 have hl := itoa_len30 h0 h1
 refine (G.kdf (by simp) h).mono (Nat.le_refl _) ?_ (Nat.le_refl _)
 rw [List.length_append, List.length_append]
 show w + (what.length + 1 + (Lib.itoa n).length) + 1 ≤ _
 omega
theorem G.shut {d w s w' s' : Nat} {k t : Tm} {n : Int} (h : G d w s k) (h' : G (d + 1) w' s' t) (h0 : -9223372036854775808 ≤ n) (h1 : n ≤ 9223372036854775807) : G (d + 2) (w + w' + 50) (s + s' + 2) (sealT k n t) :=
 (G.enc (G.num h h0 h1) h').mono (Nat.le_refl _) (by show w + 3 + 40 + w' + 1 ≤ _; omega) (by omega)
theorem G.join {d w s w' s' : Nat} {a c : Tm} {fa fb : Bs} (h : G d w s a) (h' : G d w' s' c) (hfa : fa.length ≤ 30) (hfb : fb.length ≤ 30) : G (d + 3) (w + w' + 80) (s + s' + 4) (joinT a c fa fb) := by
 have hj : joinW.length = 5 := rfl
 refine (G.hash (G.pair (GL.cons (G.kdf (n := joinW ++ fa) (by simp) h) (GL.cons (G.kdf (n := joinW ++ fb) (by simp) h') GL.nil)))).mono (Nat.le_refl _) ?_ (by omega)
 rw [List.length_append, List.length_append, hj]
 omega
theorem G.kid {d w s : Nat} {t u : Tm} (h : G (d + 1) w s t) (hu : u ∈ t.kids) : G d w s u :=
 ⟨((shp_mk t).1 h.shp).2 u hu, by have := depth_kid' hu; have := h.dep; omega, by have := wts_mem hu; have := wt_eq t; have := h.wt; omega, by have := Tm.size_mem hu; have := Tm.size_eq t; have := h.sz; omega⟩
theorem unpack_eq {tag : Bs} {n : Nat} {t : Tm} {l : List Tm} (h : unpackT tag n t = some l) : t = packT tag l ∧ l.length = n ∧ tag ≠ [] := by
 have hl := unpackT_len h
 unfold unpackT at h
 split at h
 ·rename_i hc
  cases h
  obtain ⟨h1, h2, h3⟩ := hc
  refine ⟨?_, hl, h1⟩
  obtain ⟨k, nm, kids⟩ := t
  have h3 : kids.length = n + 1 := h3
  have h2 : (if k = 3 ∧ nm = [] then (match kids with | [] => [] | x :: _ => if x.kind = 1 ∧ x.kids = [] then x.name else []) else []) = tag := h2
  by_cases hk : k = 3 ∧ nm = []
  ·rw [if_pos hk] at h2
   obtain ⟨rfl, rfl⟩ := hk
   cases kids with
   | nil => exact absurd h2.symm h1
   | cons x r =>
    have h2 : (if x.kind = 1 ∧ x.kids = [] then x.name else []) = tag := h2
    by_cases hx : x.kind = 1 ∧ x.kids = []
    ·rw [if_pos hx] at h2
     obtain ⟨xk, xn, xl⟩ := x
     obtain ⟨e1, e2⟩ := hx
     have e1 : xk = 1 := e1
     have e2 : xl = [] := e2
     have h2 : xn = tag := h2
     subst e1 e2 h2
     rfl
    ·rw [if_neg hx] at h2
     exact absurd h2.symm h1
  ·rw [if_neg hk] at h2
   exact absurd h2.symm h1
 ·cases h
theorem unseal_eq {k : Tm} {n : Int} {t : Tm} (hs : t.shp = true) (h : (unsealT k n t).2 = 0) : t = sealT k n (unsealT k n t).1 := by
 unfold unsealT at h ⊢
 split
 ·rename_i hc
  rw [dif_pos hc] at h
  split at h
  ·rename_i hk
   rw [if_pos hk]
   obtain ⟨tk, tn, tl⟩ := t
   obtain ⟨h1, h2⟩ := hc
   simp only [Tm.kind, Tm.kids] at h1 h2 hk
   subst h1
   have hn : tn = [] := by
    have := ((shp_mk _).1 hs).1.2.1
    simp only [Tm.kind, Tm.name] at this
    cases tn with
    | nil => rfl
    | cons => cases this
   subst hn
   match tl, h2 with
   | [x, y], _ =>
    simp only [Tm.kids, List.getElem_cons_zero, List.getElem_cons_succ] at hk ⊢
    unfold sealT
    rw [← hk]
  ·cases h
 ·rename_i hc
  rw [dif_neg hc] at h
  cases h
theorem sealed_eq {k : Tm} {n : Int} {t : Tm} {tag : Bs} {m : Nat} (hs : t.shp = true) (h : (sealedT k n t tag m).2 = 0) : t = sealT k n (packT tag (sealedT k n t tag m).1) ∧ (sealedT k n t tag m).1.length = m := by
 refine ⟨?_, sealedT_len h⟩
 unfold sealedT at h ⊢
 split at h
 ·exact absurd h (by assumption)
 ·rename_i hc
  rw [if_neg hc]
  have hc' : (unsealT k n t).2 = 0 := by simpa using hc
  split at h
  ·cases h
  ·rename_i l e
   simp only [e]
   have h1 := unseal_eq hs hc'
   have h2 := (unpack_eq e).1
   rw [← h2]
   exact h1
theorem list1 {l : List Tm} (h : l.length = 1) : l = [at_ l 0] := by
 match l, h with
 | [x], _ => rfl
theorem list2 {l : List Tm} (h : l.length = 2) : l = [at_ l 0, at_ l 1] := by
 match l, h with
 | [x, y], _ => rfl
theorem list3 {l : List Tm} (h : l.length = 3) : l = [at_ l 0, at_ l 1, at_ l 2] := by
 match l, h with
 | [x, y, z], _ => rfl
theorem lensW : noneW.length = 4 ∧ askW.length = 6 ∧ fastW.length = 4 ∧ timeW.length = 4 ∧ chW.length = 9 ∧ otpW.length = 3 ∧ codeW.length = 4 ∧ otpM.length = 3 ∧ wordW.length = 4 ∧ facW.length = 6 ∧ spW.length = 5 ∧ useW.length = 3 := ⟨rfl, rfl, rfl, rfl, rfl, rfl, rfl, rfl, rfl, rfl, rfl, rfl⟩
theorem noneT_G {d w s : Nat} (hd : 2 ≤ d) (hw : 6 ≤ w) (hs : 2 ≤ s) : G d w s noneT :=
 (G.pack (d := 1) (tag := noneW) (by decide) (Nat.le_refl _) GL.nil).mono hd (by have := lensW; omega) hs
theorem askT_G {d w1 s1 w2 s2 w3 s3 : Nat} {x y z : Tm} (h1 : G d w1 s1 x) (h2 : G d w2 s2 y) (h3 : G d w3 s3 z) (hd : 1 ≤ d) : G (d + 1) (w1 + w2 + w3 + 8) (s1 + s2 + s3 + 2) (askT x y z) :=
 (G.pack (tag := askW) (by decide) hd (GL.cons h1 (GL.cons h2 (GL.cons h3 GL.nil)))).mono (Nat.le_refl _) (by have := lensW; omega) (by omega)
theorem reqT_G {d wa sa wb sb wp sp wc sc : Nat} {ak b p c : Tm} (ha : G (d + 1) wa sa ak) (hb : G d wb sb b) (hp : G (d + 1) wp sp p) (hc : G (d + 1) wc sc c) : G (d + 3) (wa + wb + wp + wc + 60) (sa + sb + sp + sc + 5) (reqT ak b p c) :=
 (G.shut ha (G.pack (tag := fastW) (by decide) (by omega) (GL.cons (G.hash hb) (GL.cons hp (GL.cons hc GL.nil)))) (by decide) (by decide)).mono (Nat.le_refl _) (by have := lensW; omega) (by omega)
structure ClG (c : Cln) : Prop where
 body : G 2 200 4 c.body
 wrap : G 5 600 30 c.wrap
 ak : G 4 300 10 c.ak
 key : G 2 200 3 c.key
 seed : G 1 100 1 c.seed
 c0 : 0 ≤ c.ctr
 c1 : c.ctr ≤ 1000000000000
theorem doesT_keep (c : Cln) (o : Tm) (now : Int) (x : Tm) : (doesT c o now x).1.body = c.body ∧ (doesT c o now x).1.wrap = c.wrap ∧ (doesT c o now x).1.ak = c.ak := by
 unfold doesT
 split
 ·exact ⟨rfl, rfl, rfl⟩
 split
 ·simp only
  split <;> exact ⟨rfl, rfl, rfl⟩
 split <;> exact ⟨rfl, rfl, rfl⟩
theorem takeT_out (c : Cln) (t : Tm) (now : Int) (x : Tm) (hs : t.shp = true) : (takeT c t now x).2.1 = noneT ∨
  (c.on = true ∧ ∃ o ck, t = ansT c.ak c.nonce (packT moreW [o, ck]) ∧ (doesT c o now x).2.2.2 = 0 ∧ (takeT c t now x).2.1 = askT c.body c.wrap (reqT c.ak c.body (doesT c o now x).2.1 ck)) := by
 unfold takeT
 split
 ·exact .inl rfl
 rename_i hon
 split
 ·exact .inl rfl
 split
 ·exact .inl rfl
 split
 ·exact .inl rfl
 rename_i ho
 have ho : (openedT (ansOfT c.ak c.nonce t).1 (ansOfT c.ak c.nonce t).2 moreW 2).2 = 0 := by simpa using ho
 simp only
 split
 ·exact .inl rfl
 rename_i hd
 have hd := Classical.not_not.1 hd
 refine .inr ⟨by simpa using hon, ?_⟩
 generalize hl : (openedT (ansOfT c.ak c.nonce t).1 (ansOfT c.ak c.nonce t).2 moreW 2).1 = l at hd ⊢
 obtain ⟨k1, k2, k3⟩ := doesT_keep c (at_ l 0) now x
 refine ⟨at_ l 0, at_ l 1, ?_, hd, ?_⟩
 ·unfold openedT at ho hl
  split at ho
  ·exact absurd ho (by assumption)
  ·rename_i he
   rw [if_neg he] at hl
   have he : (ansOfT c.ak c.nonce t).2 = 0 := by simpa using he
   split at ho
   ·cases ho
   ·rename_i l' e
    rw [e] at hl
    simp only at hl
    subst hl
    obtain ⟨e1, e2, _⟩ := unpack_eq e
    unfold ansOfT at he e1
    split at he
    ·exact absurd he (by assumption)
    ·rename_i h1
     rw [if_neg h1] at e1
     split at he
     ·cases he
     ·rename_i h2
      rw [if_neg h2] at e1
      have h1 := Classical.not_not.1 h1
      have h2 := Classical.not_not.1 h2
      obtain ⟨q1, q2⟩ := sealed_eq hs h1
      rw [list2 q2, h2] at q1
      simp only at e1
      rw [e1, list2 e2] at q1
      exact q1
 ·unfold saysT moreC
  simp only
  rw [k1, k2, k3]
theorem does_G {c : Cln} (h : ClG c) {o x : Tm} {now : Int} (hx : G 1 100 1 x) (n0 : -1000000000000 ≤ now) (n1 : now ≤ 1000000000000) {w : Nat} (ho : G 51 w 60 o) (he : (doesT c o now x).2.2.2 = 0) : G 56 (3 * w + 5000) 400 (doesT c o now x).2.1 := by
 unfold doesT at he ⊢
 split
 ·
  have h1 : G 7 600 20 (chalT c.ak c.key) := (G.join h.ak (h.key.mono (by omega) (Nat.le_refl _) (Nat.le_refl _)) (by decide) (by decide)).mono (Nat.le_refl _) (by omega) (by omega)
  have h2 : G 8 400 10 (packT timeW [wordT (Lib.itoa now), hashT c.body]) :=
   (G.pack (d := 7) (tag := timeW) (by decide) (by omega) (GL.cons (G.data (n := 61 :: Lib.itoa now) (w := 40) (s := 1) (by simp) (by omega) (by have := itoa_len30 (n := now) (by omega) (by omega); simp only [List.length_cons]; omega) (by omega)) (GL.cons ((G.hash h.body).mono (by omega) (Nat.le_refl _) (Nat.le_refl _)) GL.nil))).mono (Nat.le_refl _) (by have := lensW; omega) (by omega)
  exact (G.pack (d := 9) (tag := chW) (by decide) (by omega) (GL.cons (G.shut h1 h2 (by decide) (by decide)) GL.nil)).mono (by omega) (by have := lensW; omega) (by omega)
 rename_i g1
 rw [if_neg g1] at he
 split
 ·
  rename_i g2
  rw [if_pos g2] at he
  simp only at he ⊢
  unfold answerOtpT at he ⊢
  split
  ·rename_i e; rw [e] at he; cases he
  ·rename_i l e
   obtain ⟨e1, e2, _⟩ := unpack_eq e
   rw [list1 e2] at e1
   have h0 : G 50 w 60 (at_ l 0) := ho.kid (by rw [e1]; exact List.mem_cons_of_mem _ (List.mem_cons_self ..))
   have h1 : G 50 200 5 (numT c.seed otpW c.ctr) := (G.num h.seed (by have := h.c0; omega) (by have := h.c1; omega)).mono (by omega) (by have := lensW; omega) (by omega)
   have h2 := G.pack (tag := codeW) (by decide) (by omega) (GL.cons h0 (GL.cons h1 GL.nil))
   exact (G.pack (tag := otpM) (by decide) (by omega) (GL.cons (G.shut (h.ak.mono (d' := 50) (by omega) (Nat.le_refl _) (Nat.le_refl _)) h2 (by decide) (by decide)) GL.nil)).mono (by omega) (by have := lensW; omega) (by omega)
 rename_i g2
 rw [if_neg g2] at he
 split
 ·
  rename_i g3
  rw [if_pos g3] at he
  simp only at he ⊢
  unfold answerSpakeT at he ⊢
  split
  ·rename_i e; rw [e] at he; cases he
  ·rename_i l e
   simp only [e] at he
   obtain ⟨e1, e2, _⟩ := unpack_eq e
   rw [list1 e2] at e1
   have h0 : G 50 w 60 (at_ l 0) := ho.kid (by rw [e1]; exact List.mem_cons_of_mem _ (List.mem_cons_self ..))
   split
   ·rename_i g; rw [if_pos g] at he; exact absurd he g
   ·rename_i g
    have g := Classical.not_not.1 g
    have hy : G 48 w 60 (exponentT (at_ l 0) c.key).1 := by
     unfold exponentT at g ⊢
     split at g
     ·rename_i q1
      rw [if_pos q1]
      split at g
      ·rename_i q2
       rw [if_pos q2]
       split at g
       ·rename_i q3
        rw [if_pos q3]
        have m0 : at_ (at_ l 0).kids 0 ∈ (at_ l 0).kids := by rw [list2 q1.2]; exact List.mem_cons_self ..
        have m1 : at_ (at_ (at_ l 0).kids 0).kids 0 ∈ (at_ (at_ l 0).kids 0).kids := by
         have := list1 q2.2
         exact this ▸ List.mem_cons_self ..
        exact (h0.kid (d := 49) m0).kid (d := 48) m1
       ·cases g
      ·cases g
     ·cases g
    revert hy
    generalize (exponentT (at_ l 0) c.key).1 = y
    intro hy
    have hm : G 4 400 8 (maskedT x c.key) := (G.mask ((G.pub hx).mono (d' := 3) (by omega) (Nat.le_refl _) (Nat.le_refl _)) ((G.kdf (n := wordW) (by decide) h.key).mono (d' := 3) (by omega) (Nat.le_refl _) (Nat.le_refl _)) |>.mono (by omega) (by have := lensW; omega) (by omega) : G 4 400 8 (.mk 10 [] [.mk 8 [] [x], kdfT c.key wordW]))
    have hsh : G 50 (w + 200) 70 (shareT x y) := (G.share (hx.mono (d' := 48) (by omega) (Nat.le_refl _) (Nat.le_refl _)) hy).mono (by omega) (by omega) (by omega)
    have hq : G 53 (2 * w + 2000) 200 (exKeyT x y c.key (at_ l 0) (maskedT x c.key) c.body 1) := by
     unfold exKeyT secondT
     have hk : G 50 300 5 (kdfT c.key wordW) := (G.kdf (n := wordW) (by decide) h.key).mono (by omega) (by have := lensW; omega) (by omega)
     have hb : G 50 300 5 (hashT c.body) := (G.hash h.body).mono (by omega) (by omega) (by omega)
     exact (G.num (G.hash (G.pair (GL.cons hsh (GL.cons hk (GL.cons h0 (GL.cons (hm.mono (d' := 50) (by omega) (Nat.le_refl _) (Nat.le_refl _)) (GL.cons hb GL.nil))))))) (by decide) (by decide)).mono (by omega) (by have := lensW; omega) (by omega)
    have hf : G 55 (2 * w + 3000) 220 (factorT x y c.key (at_ l 0) (maskedT x c.key) c.body) := by
     unfold factorT
     have hp : G 54 20 2 (packT facW []) := (G.pack (d := 1) (tag := facW) (by decide) (Nat.le_refl _) GL.nil).mono (by omega) (by have := lensW; omega) (Nat.le_refl _)
     exact (G.shut hq hp (by decide) (by decide)).mono (by omega) (by omega) (by omega)
    exact (G.pack (tag := spW) (by decide) (by omega) (GL.cons (hm.mono (d' := 55) (by omega) (Nat.le_refl _) (Nat.le_refl _)) (GL.cons hf GL.nil))).mono (by omega) (by have := lensW; omega) (by omega)
 ·rename_i g3
  rw [if_neg g3] at he
  cases he
theorem says_G {c : Cln} (h : ClG c) {pd ck : Tm} {w w' : Nat} (hp : G 56 w 400 pd) (hc : G 56 w' 60 ck) : G 59 (w + w' + 2000) 600 (askT c.body c.wrap (reqT c.ak c.body pd ck)) :=
 (askT_G (h.body.mono (d' := 58) (by omega) (Nat.le_refl _) (Nat.le_refl _)) (h.wrap.mono (d' := 58) (by omega) (Nat.le_refl _) (Nat.le_refl _)) (reqT_G (d := 55) (h.ak.mono (by omega) (Nat.le_refl _) (Nat.le_refl _)) (h.body.mono (by omega) (Nat.le_refl _) (Nat.le_refl _)) hp hc) (by omega)).mono (by omega) (by omega) (by omega)
theorem isNone_pack {tag : Bs} {l : List Tm} (h : tag ≠ noneW) : isNoneB (packT tag l) = false := by
 unfold isNoneB unpackT
 have e : tagT (packT tag l) = tag := by unfold tagT packT; rw [if_pos ⟨rfl, rfl⟩]; rfl
 rw [e, if_neg (fun hc => h hc.2.1)]
 rfl
theorem isNone_enc {k t : Tm} : isNoneB (encT k t) = false := by
 unfold isNoneB unpackT
 have e : tagT (encT k t) = [] := by unfold tagT; rw [if_neg (fun hc => absurd (show (4 : Int) = 3 from hc.1) (by decide))]
 rw [e, if_neg (fun hc => absurd (show ([] : Bs) = noneW from hc.2.1) (by decide))]
 rfl
structure PoolOk (p : Tm) : Prop where
 g : G 60 100000000 10000 p
 nn : isNoneB p = false
 ask : ∀ b w s, p = askT b w s → p.depth ≤ 59 ∧ w.depth ≤ 5 ∧ wt b ≤ 1000 ∧ wt p ≤ 20000000 ∧ p.size ≤ 2000
 ans : ∀ ak n o c, p = ansT ak n (packT moreW [o, c]) → G 51 3000000 60 o ∧ G 51 3000000 60 c
structure SmallT (t : Tm) : Prop where
 shp : t.shp = true
 sz : t.size ≤ 60
 wt : wt t ≤ 1200000
theorem depth_size : ∀ t : Tm, t.depth ≤ t.size := by
 intro t
 induction t using Tm.indk with
 | h t ih =>
  have key : ∀ l : List Tm, (∀ u ∈ l, u.depth ≤ u.size) → Tm.depths l ≤ Tm.sizes l := by
   intro l
   induction l with
   | nil => intro _; exact Nat.le_refl _
   | cons u l ihl =>
    intro h
    have h1 := h u (List.mem_cons_self ..)
    have h2 := ihl fun v hv => h v (List.mem_cons_of_mem _ hv)
    simp only [Tm.depths, Tm.sizes]
    omega
  have := key t.kids ih
  obtain ⟨k, n, l⟩ := t
  simp only [Tm.depth, Tm.size]
  have e : Tm.kids (.mk k n l) = l := rfl
  rw [e] at this
  omega
theorem SmallT.g {t : Tm} (h : SmallT t) : G 60 1200000 60 t := ⟨h.shp, by have := depth_size t; have := h.sz; omega, h.wt, h.sz⟩
def InOk (t : Tm) : Prop := SmallT t ∨ PoolOk t
theorem InOk.shp {t : Tm} (h : InOk t) : t.shp = true := h.elim (·.shp) (·.g.shp)
theorem small_ans {ak : Tm} {n : Bs} {o c : Tm} (h : SmallT (ansT ak n (packT moreW [o, c]))) : G 51 3000000 60 o ∧ G 51 3000000 60 c := by
 obtain ⟨h1, h2, h3⟩ := h
 have hg : G 60 1200000 60 (ansT ak n (packT moreW [o, c])) := SmallT.g ⟨h1, h2, h3⟩
 have hm : G 58 1200000 60 (packT moreW [o, c]) := ((hg.kid (d := 59) (u := packT answerW [dataT (61 :: n), packT moreW [o, c]]) (List.mem_cons_of_mem _ (List.mem_cons_self ..))).kid (d := 58) (List.mem_cons_of_mem _ (List.mem_cons_of_mem _ (List.mem_cons_self ..))))
 have ho : G 57 1200000 60 o := hm.kid (List.mem_cons_of_mem _ (List.mem_cons_self ..))
 have hc : G 57 1200000 60 c := hm.kid (List.mem_cons_of_mem _ (List.mem_cons_of_mem _ (List.mem_cons_self ..)))
 have hs : (ansT ak n (packT moreW [o, c])).size = ak.size + o.size + c.size + 7 := by
  simp only [ansT, sealT, packT, numT, Tm.size, Tm.sizes]
  omega
 have p1 := Tm.size_pos ak
 have p2 := Tm.size_pos o
 have p3 := Tm.size_pos c
 have d1 := depth_size o
 have d2 := depth_size c
 exact ⟨⟨ho.shp, by omega, by have := ho.wt; omega, by omega⟩, ⟨hc.shp, by omega, by have := hc.wt; omega, by omega⟩⟩
theorem ask_inj {b w s b' w' s' : Tm} (h : askT b w s = askT b' w' s') : b = b' ∧ w = w' ∧ s = s' := by
 simp only [askT, packT, Tm.mk.injEq, List.cons.injEq, and_true, true_and] at h
 exact h
theorem take_pool {c : Cln} (h : c.on = true → ClG c) {t x : Tm} {now : Int} (hx : G 1 100 1 x) (n0 : -1000000000000 ≤ now) (n1 : now ≤ 1000000000000) (ht : InOk t) : (takeT c t now x).2.1 = noneT ∨ PoolOk (takeT c t now x).2.1 := by
 rcases takeT_out c t now x ht.shp with e | ⟨hon, o, ck, e1, e2, e3⟩
 ·exact .inl e
 ·refine .inr ?_
  have h := h hon
  have hoc : G 51 3000000 60 o ∧ G 51 3000000 60 ck := by
   rcases ht with ht | ht
   ·rw [e1] at ht
    exact small_ans ht
   ·exact ht.ans _ _ _ _ e1
  have hp := does_G h hx n0 n1 hoc.1 e2
  have hs := says_G h hp (hoc.2.mono (by omega) (Nat.le_refl _) (Nat.le_refl _))
  rw [e3]
  exact
   {g := hs.mono (by omega) (by omega) (by omega)
    nn := isNone_pack (by decide)
    ask := fun b w s e => by
     obtain ⟨rfl, rfl, rfl⟩ := ask_inj e
     exact ⟨hs.dep, h.wrap.dep, by have := h.body.wt; omega, by have := hs.wt; omega, by have := hs.sz; omega⟩
    ans := fun ak n o c e => by
     simp only [askT, ansT, sealT, packT] at e
     cases e }
theorem start_pool {c : Cln} {n : Bs} {sub : Tm} (h : ClG (startT c n sub)) : PoolOk (saysT (startT c n sub) noneT noneT) := by
 have hs : G 59 2012 600 (saysT (startT c n sub) noneT noneT) := says_G h (pd := noneT) (ck := noneT) (w := 6) (w' := 6) (noneT_G (by omega) (by omega) (by omega)) (noneT_G (by omega) (by omega) (by omega))
 exact
  {g := hs.mono (by omega) (by omega) (by omega)
   nn := isNone_pack (by decide)
   ask := fun b w s e => by
    obtain ⟨rfl, rfl, rfl⟩ := ask_inj e
    exact ⟨hs.dep, h.wrap.dep, by have := h.body.wt; omega, by have := hs.wt; omega, by have := hs.sz; omega⟩
   ans := fun ak n o c e => by
    simp only [saysT, askT, ansT, sealT, packT] at e
    cases e }
theorem open_eq {k t : Tm} (hs : t.shp = true) (h : (openT k t).2 = 0) : ∃ sub host, t = packT armorW [sealT k 2 (packT hostW [host]), sealT host 11 (packT authW [sub])] ∧ (openT k t).1 = joinT sub host subW tickW := by
 unfold openT at h ⊢
 split at h
 ·cases h
 ·rename_i l e
  obtain ⟨e1, e2, _⟩ := unpack_eq e
  rw [list2 e2] at e1
  have hk : ∀ u ∈ t.kids, u.shp = true := ((shp_mk t).1 hs).2
  have s0 : (at_ l 0).shp = true := hk _ (by rw [e1]; exact List.mem_cons_of_mem _ (List.mem_cons_self ..))
  have s1 : (at_ l 1).shp = true := hk _ (by rw [e1]; exact List.mem_cons_of_mem _ (List.mem_cons_of_mem _ (List.mem_cons_self ..)))
  split at h
  ·exact absurd h (by assumption)
  ·rename_i g1
   have g1' := Classical.not_not.1 g1
   split at h
   ·exact absurd h (by assumption)
   ·rename_i g2
    have g2' := Classical.not_not.1 g2
    obtain ⟨q1, q2⟩ := sealed_eq s0 g1'
    obtain ⟨q3, q4⟩ := sealed_eq s1 g2'
    rw [if_neg g1, if_neg g2]
    refine ⟨_, _, ?_, rfl⟩
    rw [list1 q2] at q1
    rw [list1 q4] at q3
    rw [← q1, ← q3]
    exact e1
theorem reqOf_eq {k x t : Tm} (hs : t.shp = true) (h : (reqOfT k x t).2.2 = 0) : t = reqT k x (reqOfT k x t).1 (reqOfT k x t).2.1 := by
 unfold reqOfT at h ⊢
 split at h
 ·exact absurd h (by assumption)
 ·rename_i g1
  rw [if_neg g1]
  split at h
  ·cases h
  ·rename_i g2
   rw [if_neg g2]
   have g1 := Classical.not_not.1 g1
   have g2 := Classical.not_not.1 g2
   obtain ⟨q1, q2⟩ := sealed_eq hs g1
   rw [list3 q2, g2] at q1
   exact q1
structure Opd (k : Kd) (m : Tm) (now : Int) (ta : Ta) : Prop where
 eq : ∃ sub host kept, m = askT ta.body (packT armorW [sealT k.key 2 (packT hostW [host]), sealT host 11 (packT authW [sub])]) (reqT (joinT sub host subW tickW) ta.body ta.pd kept) ∧ ta.ak = joinT sub host subW tickW
 u : ta.u ∈ k.us
 client : ta.ck.client.length ≤ wt ta.body
 nonce : ta.ck.nonce.length ≤ wt ta.body
 done : ∀ s ∈ ta.ck.done, s ∈ ta.u.set
 less : ta.ck.done.length < ta.u.set.length
 now : ta.now = now
theorem opens_eq (k : Kd) (m : Tm) (now : Int) (hs : m.shp = true) (hk : ∀ u ∈ k.us, 0 < u.set.length) (h : (opensT k m now).2 = 0) : Opd k m now (opensT k m now).1 := by
 unfold opensT at h ⊢
 split at h
 ·cases h
 rename_i c1
 rw [if_neg c1]
 split at h
 ·cases h
 rename_i c2
 rw [if_neg c2]
 split at h
 ·rename_i c3; exact absurd h c3
 rename_i c3
 rw [if_neg c3]
 split at h
 ·rename_i c4; exact absurd h c4
 rename_i c4
 rw [if_neg c4]
 split at h
 ·cases h
 rename_i c5
 rw [if_neg c5]
 have hu := getU_mem (name := (bodyOfT (askOfT m).1).1) (l := k.us) (by simpa using c5)
 have c3 := Classical.not_not.1 c3
 have c4 := Classical.not_not.1 c4
 obtain ⟨b1, b2⟩ := bodyOfT_len (askOfT m).1
 have hm : m = askT (askOfT m).1 (askOfT m).2.1 (askOfT m).2.2.1 := by
  unfold askOfT at c1 ⊢
  split at c1
  ·exact absurd rfl c1
  ·rename_i l e
   obtain ⟨e1, e2, _⟩ := unpack_eq e
   simp only [e]
   rw [list3 e2] at e1
   exact e1
 have hkid : ∀ u ∈ m.kids, u.shp = true := ((shp_mk m).1 hs).2
 have sw : (askOfT m).2.1.shp = true := hkid _ (by rw [hm]; exact List.mem_cons_of_mem _ (List.mem_cons_of_mem _ (List.mem_cons_self ..)))
 have ss : (askOfT m).2.2.1.shp = true := hkid _ (by rw [hm]; exact List.mem_cons_of_mem _ (List.mem_cons_of_mem _ (List.mem_cons_of_mem _ (List.mem_cons_self ..))))
 obtain ⟨sub, host, q1, q2⟩ := open_eq sw c3
 have q3 := reqOf_eq ss c4
 have heq : ∃ sub host kept, m = askT (askOfT m).1 (packT armorW [sealT k.key 2 (packT hostW [host]), sealT host 11 (packT authW [sub])]) (reqT (joinT sub host subW tickW) (askOfT m).1 (reqOfT (openT k.key (askOfT m).2.1).1 (askOfT m).1 (askOfT m).2.2.1).1 kept) ∧ (openT k.key (askOfT m).2.1).1 = joinT sub host subW tickW :=
  ⟨sub, host, _, by rw [← q1, ← q2, ← q3]; exact hm, q2⟩
 split at h
 ·rename_i c6
  rw [if_pos c6]
  exact ⟨heq, hu, b1, b2, fun s hs => (by cases hs), hk _ hu, rfl⟩
 ·rename_i c6
  rw [if_neg c6]
  simp only at h
  split at h
  ·rename_i c7; exact absurd h c7
  split at h
  ·cases h
  rename_i c8
  simp only [not_or, Classical.not_not] at c8
  obtain ⟨d1, d2, d3, d4⟩ := c8
  refine ⟨heq, hu, by rw [d1]; exact b1, by rw [d2]; exact b2, fun s hs => ?_, Nat.lt_of_not_le d3, rfl⟩
  have hs : s ∈ (openCkT k.cookies (reqOfT (openT k.key (askOfT m).2.1).1 (askOfT m).1 (askOfT m).2.2.1).2.1 now).1.done := hs
  rw [d4] at hs
  exact List.mem_of_mem_take hs
theorem in_ask {m body sub host pd kept key : Tm} (h : InOk m) (e : m = askT body (packT armorW [sealT key 2 (packT hostW [host]), sealT host 11 (packT authW [sub])]) (reqT (joinT sub host subW tickW) body pd kept)) :
  G 49 20000000 2000 sub ∧ G 49 20000000 2000 host ∧ wt body ≤ 1200000 ∧ G 56 20000000 2000 pd := by
 have hw : ∀ {d w s : Nat}, G (d + 5) w s m → G (d + 4) w s (packT armorW [sealT key 2 (packT hostW [host]), sealT host 11 (packT authW [sub])]) := fun h => h.kid (by rw [e]; exact List.mem_cons_of_mem _ (List.mem_cons_of_mem _ (List.mem_cons_self ..)))
 have hsub : ∀ {d w s : Nat}, G (d + 3) w s (packT armorW [sealT key 2 (packT hostW [host]), sealT host 11 (packT authW [sub])]) → G d w s sub := fun h =>
  ((h.kid (u := sealT host 11 (packT authW [sub])) (List.mem_cons_of_mem _ (List.mem_cons_of_mem _ (List.mem_cons_self ..)))).kid (u := packT authW [sub]) (List.mem_cons_of_mem _ (List.mem_cons_self ..))).kid (List.mem_cons_of_mem _ (List.mem_cons_self ..))
 have hhost : ∀ {d w s : Nat}, G (d + 3) w s (packT armorW [sealT key 2 (packT hostW [host]), sealT host 11 (packT authW [sub])]) → G d w s host := fun h =>
  ((h.kid (u := sealT key 2 (packT hostW [host])) (List.mem_cons_of_mem _ (List.mem_cons_self ..))).kid (u := packT hostW [host]) (List.mem_cons_of_mem _ (List.mem_cons_self ..))).kid (List.mem_cons_of_mem _ (List.mem_cons_self ..))
 have hpd : ∀ {d w s : Nat}, G (d + 3) w s m → G d w s pd := fun h =>
  ((h.kid (u := reqT (joinT sub host subW tickW) body pd kept) (by rw [e]; exact List.mem_cons_of_mem _ (List.mem_cons_of_mem _ (List.mem_cons_of_mem _ (List.mem_cons_self ..))))).kid (u := packT fastW [hashT body, pd, kept]) (List.mem_cons_of_mem _ (List.mem_cons_self ..))).kid (List.mem_cons_of_mem _ (List.mem_cons_of_mem _ (List.mem_cons_self ..)))
 have hbody : ∀ {d w s : Nat}, G (d + 1) w s m → G d w s body := fun h => h.kid (by rw [e]; exact List.mem_cons_of_mem _ (List.mem_cons_self ..))
 rcases h with h | h
 ·have hg := h.g
  have hsz : m.size = 2 * body.size + 2 * sub.size + 3 * host.size + pd.size + kept.size + key.size + 21 := by
   rw [e]
   simp only [askT, packT, sealT, reqT, joinT, numT, Tm.size, Tm.sizes]
   omega
  have h60 := h.sz
  have p1 := Tm.size_pos body
  have p2 := Tm.size_pos sub
  have p3 := Tm.size_pos host
  have p4 := Tm.size_pos pd
  have p5 := Tm.size_pos kept
  have p6 := Tm.size_pos key
  have g1 := hsub (hw (d := 55) hg)
  have g2 := hhost (hw (d := 55) hg)
  have g3 := hpd (d := 57) hg
  have g4 := hbody (d := 59) hg
  have d1 := depth_size sub
  have d2 := depth_size host
  have d3 := depth_size pd
  exact ⟨⟨g1.shp, by omega, by have := g1.wt; omega, by omega⟩, ⟨g2.shp, by omega, by have := g2.wt; omega, by omega⟩, g4.wt, ⟨g3.shp, by omega, by have := g3.wt; omega, by omega⟩⟩
 ·obtain ⟨a1, a2, a3, a4, a5⟩ := h.ask _ _ _ e
  have hg : G 59 20000000 2000 m := ⟨h.g.shp, a1, a4, a5⟩
  have gw := hw (d := 54) hg
  have gw' : G 5 20000000 2000 (packT armorW [sealT key 2 (packT hostW [host]), sealT host 11 (packT authW [sub])]) := ⟨gw.shp, a2, gw.wt, gw.sz⟩
  exact ⟨(hsub (d := 2) gw').mono (by omega) (Nat.le_refl _) (Nat.le_refl _), (hhost (d := 2) gw').mono (by omega) (Nat.le_refl _) (Nat.le_refl _), by omega, hpd (d := 56) hg⟩
structure KdG (k : Kd) : Prop where
 key : G 1 100 1 k.key
 ck : G 1 100 1 k.cookies
 fits : fitsB k.cookies = true
 ukey : ∀ u ∈ k.us, G 2 200 3 u.key
 set0 : ∀ u ∈ k.us, 0 < u.set.length
 set3 : ∀ u ∈ k.us, u.set.length ≤ 3
 words : ∀ u ∈ k.us, ∀ s ∈ u.set, s.length ≤ 20
 d0 : 0 ≤ k.drawn
 d1 : k.drawn ≤ 100000000000
theorem draw_G {n : Int} (h0 : 0 ≤ n) (h1 : n ≤ 200000000000) : G 1 60 1 (drawT n) := by
 have hl := itoa_len30 (n := n) (by omega) (by omega)
 refine G.atom (by unfold kdrW; simp) (Nat.le_refl _) ?_ (Nat.le_refl _)
 rw [List.length_append]
 show 4 + _ + 1 ≤ _
 omega
theorem right_atom {s : Bs} (h : s ≠ []) : rightT (atomT s) = true := by
 have hg : G 1 (s.length + 1) 1 (atomT s) := G.atom h (Nat.le_refl _) (Nat.le_refl _) (Nat.le_refl _)
 unfold rightT
 rw [(shpD_iff _ _).2 ⟨hg.shp, Nat.le_trans hg.dep (by decide)⟩]
 simp [ordT, ordTs]
theorem fits_atom {s : Bs} (h : s ≠ []) : fitsB (atomT s) = true := by
 unfold fitsB
 rw [right_atom h]
 have hg : G 1 (s.length + 1) 1 (atomT s) := G.atom h (Nat.le_refl _) (Nat.le_refl _) (Nat.le_refl _)
 have : depT (atomT s) 61 ≤ 57 := by unfold depT; have := hg.dep; omega
 simp [this]
theorem fits_none : fitsB noneT = true := by decide
theorem words_GL {f : Bs → Tm} {n : Nat} (hf : ∀ s : Bs, s.length ≤ 20 → G 1 30 1 (f s)) : ∀ {l : List Bs}, (∀ s ∈ l, s.length ≤ 20) → l.length ≤ n → GL 1 (n * 30) n (l.map f)
 | [], _, _ => ⟨fun t h => (by cases h), Nat.zero_le _, Nat.zero_le _, Nat.zero_le _⟩
 | s :: l, h, hn => by
  cases n with
  | zero => simp at hn
  | succ n =>
   have h1 := words_GL (n := n) hf (l := l) (fun s hs => h s (List.mem_cons_of_mem _ hs)) (by simpa using hn)
   have h2 := GL.cons (hf s (h s (List.mem_cons_self ..))) h1
   exact ⟨h2.shp, h2.dep, by have := h2.wt; rw [Nat.succ_mul]; show wts (f s :: l.map f) ≤ _; omega, by have := h2.sz; show Tm.sizes (f s :: l.map f) ≤ _; omega⟩
theorem data_G1 {c : UInt8} {s : Bs} (h : s.length ≤ 20) : G 1 30 1 (dataT (c :: s)) := G.data (by simp) (Nat.le_refl _) (by simp only [List.length_cons]; omega) (Nat.le_refl _)
theorem data_GB {c : UInt8} {s : Bs} {n d : Nat} (h : s.length ≤ n) (hd : 1 ≤ d) : G d (n + 2) 1 (dataT (c :: s)) := G.data (by simp) hd (by simp only [List.length_cons]; omega) (Nat.le_refl _)
theorem lensK : moreW.length = 4 ∧ answerW.length = 6 ∧ ckW.length = 6 ∧ asrepW.length = 6 ∧ ticketW.length = 6 ∧ encW.length = 3 ∧ finishW.length = 6 ∧ strW.length ≤ 30 ∧ repW.length ≤ 30 ∧ errW.length = 5 := ⟨rfl, rfl, rfl, rfl, rfl, rfl, rfl, by decide, by decide, rfl⟩
structure TaG (k : Kd) (ta : Ta) : Prop where
 ak : G 52 40000100 4010 ta.ak
 ukey : G 2 200 3 ta.u.key
 client : ta.ck.client.length ≤ 1200000
 nonce : ta.ck.nonce.length ≤ 1200000
 words : ∀ s ∈ ta.ck.done, s.length ≤ 20
 few : ta.ck.done.length ≤ 3
 n0 : -1000000000000 ≤ ta.now
 n1 : ta.now ≤ 1000000000000
theorem cookie_G {k : Kd} (hk : KdG k) {ta : Ta} (h : TaG k ta) {sec : Tm} (hs : G 2 60 2 sec) (hf : fitsB sec = true) : G 4 3000000 30 (sealCkT k.cookies ⟨ta.ck.client, ta.ck.nonce, ta.ck.done, sec, ta.now + 100⟩) := by
 unfold sealCkT
 rw [if_pos ⟨hk.fits, hf⟩]
 have hl := lensK
 have hi := itoa_len30 (n := ta.now + 100) (by have := h.n0; omega) (by have := h.n1; omega)
 have hd : G 2 100 4 (pairT (ta.ck.done.map fun s => dataT (100 :: s))) := (G.pair (words_GL (n := 3) (fun s hs => data_G1 hs) h.words h.few)).mono (Nat.le_refl _) (by omega) (by omega)
 exact (G.enc (hk.ck.mono (d' := 3) (by omega) (Nat.le_refl _) (Nat.le_refl _)) (G.pair (GL.cons (G.data (d := 2) (w := 10) (s := 1) (n := ckW) (by decide) (by omega) (by omega) (by omega)) (GL.cons (data_GB (d := 2) h.client (by omega)) (GL.cons (data_GB (d := 2) h.nonce (by omega)) (GL.cons hd (GL.cons hs (GL.cons (data_GB (d := 2) hi (by omega)) GL.nil)))))))).mono (Nat.le_refl _) (by omega) (by omega)
theorem more_pool {k : Kd} (hk : KdG k) {ta : Ta} (h : TaG k ta) {sec o : Tm} (hs : G 2 60 2 sec) (hf : fitsB sec = true) (ho : G 5 500 20 o) : PoolOk (kmoreT k ta sec o) := by
 have hl := lensK
 have hc := cookie_G hk h hs hf
 have h1 : G 6 3001000 60 (packT moreW [o, sealCkT k.cookies ⟨ta.ck.client, ta.ck.nonce, ta.ck.done, sec, ta.now + 100⟩]) := (G.pack (d := 5) (tag := moreW) (by decide) (by omega) (GL.cons ho (GL.cons (hc.mono (by omega) (Nat.le_refl _) (Nat.le_refl _)) GL.nil))).mono (Nat.le_refl _) (by omega) (by omega)
 have h2 := G.pack (d := 52) (tag := answerW) (by decide) (by omega) (GL.cons (data_GB (c := 61) (d := 52) h.nonce (by omega)) (GL.cons (h1.mono (d' := 52) (by omega) (Nat.le_refl _) (Nat.le_refl _)) GL.nil))
 have h3 := G.shut (n := 52) h.ak h2 (by decide) (by decide)
 exact
  {g := h3.mono (by omega) (by omega) (by omega)
   nn := isNone_enc
   ask := fun b w s e => by
    simp only [kmoreT, ansT, sealT, askT, packT] at e
    cases e
   ans := fun ak n o' c' e => by
    simp only [kmoreT, ansT, sealT, packT, Tm.mk.injEq, List.cons.injEq, and_true, true_and] at e
    obtain ⟨_, _, rfl, rfl⟩ := e
    exact ⟨ho.mono (by omega) (by omega) (by omega), hc.mono (by omega) (by omega) (by omega)⟩ }
theorem offer_pool {k : Kd} (hk : KdG k) {ta : Ta} (h : TaG k ta) : PoolOk (offerT k ta).2 := by
 have hl := lensW
 have hd := draw_G (n := k.drawn + 1) (by have := hk.d0; omega) (by have := hk.d1; omega)
 have hne : drawT (k.drawn + 1) = atomT (kdrW ++ Lib.itoa (k.drawn + 1)) := rfl
 have hdf : fitsB (drawT (k.drawn + 1)) = true := fits_atom (by unfold kdrW; simp)
 unfold offerT
 split
 ·exact more_pool hk h (hd.mono (by omega) (Nat.le_refl _) (by omega)) hdf ((G.pack (d := 1) (tag := otpM) (by decide) (Nat.le_refl _) (GL.cons hd GL.nil)).mono (by omega) (by omega) (by omega))
 split
 ·have hm : G 4 400 10 (maskedT (drawT (k.drawn + 1)) ta.u.key) := (G.mask ((G.pub hd).mono (d' := 3) (by omega) (Nat.le_refl _) (Nat.le_refl _)) (G.kdf (n := wordW) (by decide) h.ukey)).mono (by omega) (by omega) (by omega)
  exact more_pool hk h (hd.mono (by omega) (Nat.le_refl _) (by omega)) hdf ((G.pack (d := 4) (tag := spW) (by decide) (by omega) (GL.cons hm GL.nil)).mono (by omega) (by omega) (by omega))
 ·exact more_pool hk h (noneT_G (by omega) (by omega) (by omega)) fits_none ((G.pack (d := 1) (tag := chW) (by decide) (Nat.le_refl _) GL.nil).mono (by omega) (by omega) (by omega))
theorem ticket_pool {k : Kd} (hk : KdG k) {ta : Ta} (h : TaG k ta) {base : Tm} (hb : G 53 40000500 4020 base) : PoolOk (ticketR k ta base) := by
 have hl := lensK
 have hd1 := draw_G (n := k.drawn + 1) (by have := hk.d0; omega) (by have := hk.d1; omega)
 have hd2 := draw_G (n := k.drawn + 1 + 1) (by have := hk.d0; omega) (by have := hk.d1; omega)
 have hi := itoa_len30 (n := ta.now) (by have := h.n0; omega) (by have := h.n1; omega)
 have hw : G 2 100 4 (wordsT ta.ck.done) := (G.pair (words_GL (n := 3) (fun s hs => data_G1 hs) h.words h.few)).mono (Nat.le_refl _) (by omega) (by omega)
 have ht : G 4 1300000 20 (tkT k ta) :=
  (G.shut (d := 2) (n := 3) (hk.key.mono (by omega) (Nat.le_refl _) (Nat.le_refl _)) (G.pack (d := 2) (tag := ticketW) (by decide) (by omega) (GL.cons (data_GB (c := 61) (d := 2) h.client (by omega)) (GL.cons (hd1.mono (d' := 2) (by omega) (Nat.le_refl _) (Nat.le_refl _)) (GL.cons hw (GL.cons (data_GB (c := 61) (d := 2) hi (by omega)) GL.nil))))) (by decide) (by decide)).mono (Nat.le_refl _) (by omega) (by omega)
 have hh := G.hash ht
 have hj := G.join (fa := strW) (fb := repW) (hd2.mono (d' := 53) (by omega) (Nat.le_refl _) (Nat.le_refl _)) hb (by decide) (by decide)
 have he := G.shut (n := 3) hj (G.pack (d := 56) (tag := encW) (by decide) (by omega) (GL.cons (hd1.mono (d' := 56) (by omega) (Nat.le_refl _) (Nat.le_refl _)) (GL.cons (data_GB (c := 61) (d := 56) h.nonce (by omega)) (GL.cons (hh.mono (d' := 56) (by omega) (Nat.le_refl _) (Nat.le_refl _)) GL.nil)))) (by decide) (by decide)
 have hf : G 6 1400000 30 (packT finishW [drawT (k.drawn + 1 + 1), hashT (tkT k ta)]) := (G.pack (d := 5) (tag := finishW) (by decide) (by omega) (GL.cons (hd2.mono (d' := 5) (by omega) (Nat.le_refl _) (Nat.le_refl _)) (GL.cons hh GL.nil))).mono (Nat.le_refl _) (by omega) (by omega)
 have hq := G.shut (n := 52) h.ak (G.pack (d := 52) (tag := answerW) (by decide) (by omega) (GL.cons (data_GB (c := 61) (d := 52) h.nonce (by omega)) (GL.cons (hf.mono (d' := 52) (by omega) (Nat.le_refl _) (Nat.le_refl _)) GL.nil))) (by decide) (by decide)
 have hr := G.pack (d := 58) (tag := asrepW) (by decide) (by omega) (GL.cons (ht.mono (d' := 58) (by omega) (Nat.le_refl _) (Nat.le_refl _)) (GL.cons he (GL.cons (hq.mono (d' := 58) (by omega) (Nat.le_refl _) (Nat.le_refl _)) GL.nil)))
 exact
  {g := hr.mono (by omega) (by omega) (by omega)
   nn := isNone_pack (by decide)
   ask := fun b w s e => by
    simp only [ticketR, askT, packT, Tm.mk.injEq, List.cons.injEq, and_true, true_and] at e
    exact absurd e.1 (by decide)
   ans := fun ak n o' c' e => by
    simp only [ticketR, ansT, sealT, packT] at e
    cases e }
theorem refT_pool {e : Int} (h : SmallE e) : PoolOk (refT e) := by
 have hl := lensK
 have hi := itoa_len30 (n := e) (by have := h.1; omega) (by have := h.2; omega)
 have hr := G.pack (d := 1) (tag := errW) (by decide) (Nat.le_refl _) (GL.cons (data_GB (c := 61) (d := 1) hi (Nat.le_refl _)) GL.nil)
 exact
  {g := hr.mono (by omega) (by omega) (by omega)
   nn := isNone_pack (by decide)
   ask := fun b w s e => by
    simp only [refT, askT, packT, Tm.mk.injEq, List.cons.injEq, and_true, true_and] at e
    exact absurd e.1 (by decide)
   ans := fun ak n o' c' e => by
    simp only [refT, ansT, sealT, packT] at e
    cases e }
theorem checkSpake_G {u body y p : Tm} {w : Nat} (hp : G 56 w 2000 p) (h : (checkSpakeT u body y p).2 = 0) : G 53 (w + 100) 2001 (checkSpakeT u body y p).1 := by
 unfold checkSpakeT at h ⊢
 split at h
 ·cases h
 ·rename_i l e
  obtain ⟨e1, e2, _⟩ := unpack_eq e
  rw [list2 e2] at e1
  split at h
  ·exact absurd h (by assumption)
  ·rename_i g1
   rw [if_neg g1]
   split at h
   ·cases h
   ·rename_i g2
    rw [if_neg g2]
    have g2 := Classical.not_not.1 g2
    simp only
    have hf : G 55 w 2000 (at_ l 1) := hp.kid (by rw [e1]; exact List.mem_cons_of_mem _ (List.mem_cons_of_mem _ (List.mem_cons_self ..)))
    rw [g2] at hf
    unfold factorT sealT at hf
    have h1 : G 54 w 2000 (numT (exKeyT (exponentT (at_ l 0) u).1 y u (maskedT y u) (at_ l 0) body 1) useW 60) := hf.kid (List.mem_cons_self ..)
    have h2 : G 53 w 2000 (exKeyT (exponentT (at_ l 0) u).1 y u (maskedT y u) (at_ l 0) body 1) := h1.kid (List.mem_cons_self ..)
    unfold exKeyT secondT at h2 ⊢
    have h3 := h2.kid (d := 52) (List.mem_cons_self ..)
    have := lensW
    exact (G.num h3 (by decide) (by decide)).mono (by omega) (by omega) (by omega)
theorem proves_G {k : Kd} {ta : Ta} (h : TaG k ta) (hp : G 56 20000000 2000 ta.pd) (he : (provesT ta).2.2 = 0) : G 53 40000500 4020 (provesT ta).1 := by
 have hl := lensW
 unfold provesT at he ⊢
 split
 ·exact (G.num h.ak (by decide) (by decide)).mono (by omega) (by omega) (by omega)
 rename_i g1
 rw [if_neg g1] at he
 split
 ·rename_i g2
  rw [if_pos g2] at he
  exact (checkSpake_G hp he).mono (by omega) (by omega) (by omega)
 ·exact h.ukey.mono (by omega) (by omega) (by omega)
theorem takes_base {k : Kd} {ta : Ta} (h : (takesT k ta).2.2.2 = 0) : (takesT k ta).2.1 = (provesT ta).1 ∧ (provesT ta).2.2 = 0 := by
 unfold takesT at h ⊢
 split at h
 ·cases h
 rename_i g1
 rw [if_neg g1]
 split at h
 ·cases h
 rename_i g2
 rw [if_neg g2]
 split at h
 ·rename_i g3; exact absurd h g3
 rename_i g3
 rw [if_neg g3]
 refine ⟨?_, Classical.not_not.1 g3⟩
 split
 ·rfl
 split <;> rfl
end Go.Sl
namespace Go.Sl
open Go Go.Vc Go.Proofs Go.RowKit
theorem wordOf_word (s : Bs) : wordOfT (wordT s) = (s, true) := by
 have h : cutP (61 :: s) [61] = (s, true) := by
  have hp : preB (61 :: s) [61] = true := by
   unfold preB
   simp
  unfold cutP
  rw [if_pos hp]
  rfl
 unfold wordOfT
 show (if (decide ((1 : Int) = 1) && decide (([] : List Tm) = [])) = true ∧ (cutP (61 :: s) [61]).2 = true then ((cutP (61 :: s) [61]).1, true) else ([], false)) = _
 rw [h, if_pos ⟨rfl, rfl⟩]
theorem bodyOf_body {c n : Bs} (hc : c ≠ []) (hn : n ≠ []) : bodyOfT (bodyT c n) = (c, n, true) := by
 have h1 : unpackT bodyW 2 (bodyT c n) = some [wordT c, wordT n] := unpack_pack (l := [_, _]) (by decide)
 unfold bodyOfT
 rw [h1]
 simp only [at_, List.getD_cons_zero, List.getD_cons_succ, wordOf_word]
 rw [if_pos ⟨trivial, trivial, hc, hn⟩]
theorem askOf_ask (x y z : Tm) : askOfT (askT x y z) = (x, y, z, true) := by
 have h1 : unpackT askW 3 (askT x y z) = some [x, y, z] := unpack_pack (l := [_, _, _]) (by decide)
 unfold askOfT
 rw [h1]
 rfl
theorem open_other {k k' h s : Tm} (hk : k ≠ k') : openT k' (wrapT (ticketT k h) h s) = (zeroT, 4) := by
 have h1 : unpackT armorW 2 (wrapT (ticketT k h) h s) = some [ticketT k h, sealT h 11 (packT authW [s])] := unpack_pack (l := [_, _]) (by decide)
 have h2 : unsealT k' 2 (ticketT k h) = (zeroT, 4) := by
  rw [unsealT_at rfl rfl]
  refine if_neg fun e => hk ?_
  have e : numT k useW 2 = numT k' useW 2 := e
  simp only [numT, Tm.mk.injEq, List.cons.injEq, and_true, true_and] at e
  exact e
 have h3 : sealedT k' 2 (ticketT k h) hostW 1 = ([], 4) := by
  unfold sealedT
  rw [h2]
  rfl
 unfold openT
 rw [h1]
 simp only [at_, List.getD_cons_zero, List.getD_cons_succ, h3]
 rfl
def oneW : Bs := [111, 110, 101]
def twoW : Bs := [116, 119, 111]
def keyN : Bs := [107, 101, 121]
def seedN : Bs := [115, 101, 101, 100]
def passN : Bs := [112, 97, 115, 115, 119, 111, 114, 100]
def subN : Tm := atomT [115, 117, 98]
def hstN : Tm := atomT [104, 111, 115, 116]
def usZ (s : Bs) : Us := ⟨[97], atomT keyN, [s], atomT seedN, ⟨0, 0, 0, 0, 0, 5⟩, 0⟩
def kdZ (w s : Bs) : Kd := ⟨atomT w, atomT [99, 111, 111, 107, 105, 101], [usZ s], 8, [], 0, []⟩
def tickZ : Tm := ticketT (atomT oneW) hstN
def clZ : Cln := newCl ⟨[97], atomT passN, zeroT, 0, tickZ, hstN⟩
def askZ (n : Bs) : Tm := saysT (startT clZ n subN) noneT noneT
def akZ : Tm := joinT subN hstN subW tickW
theorem askZ_eq (n : Bs) : askZ n = askT (bodyT [97] n) (wrapT tickZ hstN subN) (reqT akZ (bodyT [97] n) noneT noneT) := rfl
theorem none_none : isNoneB noneT = true := by decide +kernel
theorem opens_two {n : Bs} (hn : n ≠ []) (s : Bs) : (opensT (kdZ twoW s) (askZ n) 0).2 = 4 := by
 have hb := bodyOf_body (c := [97]) (by decide) hn
 have ho : openT (kdZ twoW s).key (wrapT tickZ hstN subN) = (zeroT, 4) := open_other (fun e => by
  have e : (atomT oneW).name = (atomT twoW).name := congrArg Tm.name e
  exact absurd e (by decide))
 unfold opensT
 rw [askZ_eq, askOf_ask]
 simp only [hb, ho]
 rfl
theorem request_two {n : Bs} (hn : n ≠ []) (s : Bs) : requestT (kdZ twoW s) (askZ n) 0 = (kdZ twoW s, refT 4) := by
 unfold requestT
 rw [opens_two hn, if_pos (by decide)]
theorem refOf_four : refOfT (refT 4) = (4, true) := by decide +kernel
def taZ (n s : Bs) : Ta := ⟨⟨[97], n, [], noneT, 0⟩, akZ, bodyT [97] n, noneT, usZ s, 0⟩
theorem opens_one {n : Bs} (hn : n ≠ []) (s : Bs) : opensT (kdZ oneW s) (askZ n) 0 = (taZ n s, 0) := by
 have hb := bodyOf_body (c := [97]) (by decide) hn
 have ho : openT (kdZ oneW s).key (wrapT tickZ hstN subN) = (akZ, 0) := open_wrap _ _ _
 have hr : reqOfT akZ (bodyT [97] n) (reqT akZ (bodyT [97] n) noneT noneT) = (noneT, noneT, 0) := by rw [reqOf_req, if_pos rfl]
 have hg : getU [97] (kdZ oneW s).us = (usZ s, true) := rfl
 have hl : lockedU [97] (kdZ oneW s).us = false := rfl
 unfold opensT
 rw [askZ_eq, askOf_ask]
 simp only [hb, ho, hr, hg, hl, none_none]
 rfl
theorem refOf_more (k : Kd) (t : Ta) (x o : Tm) : refOfT (kmoreT k t x o) = (0, false) := by
 have h : unpackT errW 1 (kmoreT k t x o) = none := rfl
 unfold refOfT
 rw [h]
theorem request_is {n : Bs} (hn : n ≠ []) (s : Bs) : requestT (kdZ oneW s) (askZ n) 0 = offerT (kdZ oneW s) (taZ n s) := by
 unfold requestT
 rw [opens_one hn, if_neg (show ¬ ((0 : Int) ≠ 0) by decide)]
 exact if_pos none_none
theorem request_one {n : Bs} (hn : n ≠ []) (s : Bs) : (refOfT (requestT (kdZ oneW s) (askZ n) 0).2).2 = false := by
 rw [request_is hn]
 unfold offerT
 split
 ·rw [refOf_more]
 split
 ·rw [refOf_more]
 ·rw [refOf_more]
theorem refuse_none {n : Bs} (hn : n ≠ []) (s : Bs) : unpackT errW 1 (requestT (kdZ oneW s) (askZ n) 0).2 = none := by
 rw [request_is hn]
 unfold offerT
 split
 ·rfl
 split
 ·rfl
 ·rfl
theorem at_len {t : Tm} {l : List Tm} (e : unpackT errW 1 t = some l) (h : wt t ≤ 1000000) : (at_ l 0).name.length ≤ 281474976710656 := by
 have h1 := wt_at (wt_unpack e) (wt_pos t) 0
 have h2 := wt_eq (at_ l 0)
 omega
theorem kdZ_ok (w : Bs) (hw : w.length ≤ 100) {s : Bs} (hs : s.length ≤ 20) : KdOk (kdZ w s) :=
 {key := by show wt (.mk 2 w []) ≤ _; rw [wt_eq]; show w.length + 0 + 1 ≤ _; omega
  cookies := by show wt (atomT _) ≤ _; decide
  few := (by decide : 1 ≤ 32)
  sets := fun u hu => by rw [List.mem_singleton.1 (show u ∈ [usZ s] from hu)]; exact (by decide : 0 < 1 ∧ 1 ≤ 3)
  words := fun u hu x hx => by
   rw [List.mem_singleton.1 (show u ∈ [usZ s] from hu)] at hx
   rw [List.mem_singleton.1 (show x ∈ [s] from hx)]
   omega
  fails := fun u hu => by rw [List.mem_singleton.1 (show u ∈ [usZ s] from hu)]; exact (by decide : (0 : Int) ≤ 0 ∧ (0 : Int) ≤ 1000000000000)
  room0 := (by decide : (0 : Int) ≤ 8), room1 := (by decide : (8 : Int) ≤ 64), nod := List.nodup_nil, cal := (by decide : 0 ≤ 64), d0 := (by decide : (0 : Int) ≤ 0), d1 := (by decide : (0 : Int) ≤ 100000000000), iss := (by decide : 0 ≤ 100000) }
theorem usZ_good {s : Bs} (h : usRight (usZ s) = true) : GoodU [usZ s] :=
 {few := (by decide : 1 ≤ 32)
  right := fun u hu => by rw [List.mem_singleton.1 hu]; exact h
  apart := fun i h => by
   have : i = 0 := by have : i < 1 := h; omega
   subst this
   exact Nat.lt_irrefl _ }
theorem usZ_all : usRight (usZ chW) = true ∧ usRight (usZ otpM) = true ∧ usRight (usZ spW) = true := by decide +kernel
theorem askZ_wt {n : Bs} (hn : n.length ≤ 30) : wt (askZ n) ≤ 1000000000 := by
 have hb : wt (bodyT [97] n) ≤ 1000 := by
  simp only [bodyT, packT, pairT, wordT, dataT, wt_eq, wts, Tm.name, Tm.kids, List.length_cons, List.length_nil]
  omega
 have h1 : wt (wrapT tickZ hstN subN) ≤ 1000 := by decide +kernel
 have h2 : wt (numT akZ useW 51) ≤ 1000 := by decide +kernel
 have h3 : wt noneT ≤ 1000 := by decide
 rw [askZ_eq]
 generalize bodyT [97] n = b at hb ⊢
 generalize wrapT tickZ hstN subN = w at h1 ⊢
 simp only [askT, reqT, sealT, packT, pairT, encT, hashT, dataT, wt_eq (.mk _ _ _), wts, Tm.name, Tm.kids, List.length_cons, List.length_nil]
 generalize numT akZ useW 51 = k at h2 ⊢
 omega
theorem atom_G {s : Bs} (h0 : s ≠ []) (h1 : s.length ≤ 8) : G 1 10 1 (atomT s) := G.atom h0 (Nat.le_refl _) (by omega) (Nat.le_refl _)
theorem ukey_G (s : Bs) : G 2 200 3 (usZ s).key := (atom_G (s := keyN) (by decide) (by decide)).mono (by omega) (by omega) (by omega)
theorem kdZ_G {s : Bs} (hs : s.length ≤ 20) : KdG (kdZ oneW s) :=
 {key := (atom_G (s := oneW) (by decide) (by decide)).mono (by omega) (by omega) (by omega)
  ck := (atom_G (s := [99, 111, 111, 107, 105, 101]) (by decide) (by decide)).mono (by omega) (by omega) (by omega)
  fits := fits_atom (by decide)
  ukey := fun u hu => by rw [List.mem_singleton.1 (show u ∈ [usZ s] from hu)]; exact ukey_G s
  set0 := fun u hu => by rw [List.mem_singleton.1 (show u ∈ [usZ s] from hu)]; exact Nat.zero_lt_one
  set3 := fun u hu => by rw [List.mem_singleton.1 (show u ∈ [usZ s] from hu)]; exact (by decide : 1 ≤ 3)
  words := fun u hu x hx => by
   rw [List.mem_singleton.1 (show u ∈ [usZ s] from hu)] at hx
   rw [List.mem_singleton.1 (show x ∈ [s] from hx)]
   omega
  d0 := (by decide : (0 : Int) ≤ 0), d1 := (by decide : (0 : Int) ≤ 100000000000) }
theorem answer_wt {n : Bs} (hn : n ≠ []) (hl : n.length ≤ 30) {s : Bs} (hs : s.length ≤ 20) : wt (requestT (kdZ oneW s) (askZ n) 0).2 ≤ 1000000000 := by
 rw [request_is hn]
 have h : TaG (kdZ oneW s) (taZ n s) :=
  {ak := (G.join (atom_G (s := [115, 117, 98]) (by decide) (by decide)) (atom_G (s := [104, 111, 115, 116]) (by decide) (by decide)) (by decide) (by decide)).mono (by omega) (by decide) (by omega)
   ukey := ukey_G s
   client := (by decide : 1 ≤ 1200000)
   nonce := by show n.length ≤ _; omega
   words := fun x hx => by cases hx
   few := Nat.zero_le _
   n0 := (by decide : (-1000000000000 : Int) ≤ 0)
   n1 := (by decide : (0 : Int) ≤ 1000000000000) }
 have := (offer_pool (kdZ_G hs) h).g.wt
 omega
end Go.Sl
