/- Part 14 of the proof: Iz Yp Zd. -/
import Derived.Test.YteicafhbhdliaaaGreatDoorOam
set_option linter.unusedSimpArgs false
set_option linter.unusedVariables false
set_option maxHeartbeats 4000000
namespace Go.Sl
open Go Go.Vc Go.Proofs Go.RowKit
def xG (c : Cln) (d : Cln × Tm × Tm × Int) (l : List Tm) : Cln := { d.1 with base := d.2.2.1, done := true, marks := d.1.marks ++ [(fq (at_ l 0), d.1.nonce)] }
def bz (c : Cln) (t : Tm) (now : Int) (x : Tm) : Cln × Tm × Int :=
 if c.on = false then (c, aw, 11) else
 if (oM t).2 = true then ({ c with on := false }, aw, (oM t).1) else
 match ao kD 3 t with
 | some l => ((nh c (at_ l 0) (at_ l 1) (at_ l 2)).1, aw, (nh c (at_ l 0) (at_ l 1) (at_ l 2)).2)
 | none =>
  if (ba (bn c.ak c.nonce t).1 (bn c.ak c.nonce t).2 cO 2).2 ≠ 0 then (c, aw, (ba (bn c.ak c.nonce t).1 (bn c.ak c.nonce t).2 cO 2).2) else
  let l := (ba (bn c.ak c.nonce t).1 (bn c.ak c.nonce t).2 cO 2).1
  let d := dr c (at_ l 0) now x
  if d.2.2.2 ≠ 0 then (d.1, aw, d.2.2.2) else
  (xG c d l, eF (xG c d l) d.2.1 (at_ l 1), 0)
abbrev tkV (x : Cln × Tm × Int) : SV := .tupS [tv x.2.1, iv x.2.2]
theorem wr (c : Cln) (offer : Tm) (now : Int) (x : Tm) : (dr c offer now x).1.marks = c.marks /\ (dr c offer now x).1.nonce = c.nonce /\ (dr c offer now x).1.on = c.on := by
 unfold dr;split
 ·exact ⟨rfl, rfl, rfl⟩
 split
 ·simp only;split <;> exact ⟨rfl, rfl, rfl⟩
 split <;> exact ⟨rfl, rfl, rfl⟩
set_option maxHeartbeats 2000000 in
theorem se (c : Cln) (t : Tm) (now : Int) (x : Tm) (hw : wt t <= 1000000000) (hx : wt x <= 1000000000) (hn : c.nonce.length <= 1000000000) (h0 : 0 <= c.ctr) (h1 : c.ctr <= 1000000000000) (hm : c.marks.length <= 1000000) (n0 : -1000000000000 <= now) (n1 : now <= 1000000000000) :
  PM (cx true) 115 (clO c) [.ptr 2020 0, tv t, iv now, tv x] (clO (bz c t now x).1) (tkV (bz c t now x)) := by
 obtain ⟨X, hX⟩ : ∃ X, X = bz c t now x := ⟨_, rfl⟩
 rw [<- hX];unfold bz at hX;have hr := Bm true t (aE _ hw) (fun l hl => by have h1 := jU (at_ l 0); have h2 := dp (bV hl) (br t) 0; omega);revert hr hX;generalize oM t = r;obtain ⟨e1, q1⟩ := r;intro hX hr;simp only at hX;have hu := bD true kD 3 t (by decide) (aE _ hw)
 by_cases hon : c.on = false
 ·rw [if_pos hon] at hX;subst hX;obtain ⟨on, done, ended, nonce, body, wrap, ak, base, sess, name, pw, seed, ctr, tick, host, key, marks⟩ := c;simp only at hon;subst hon;refine pmv {} Tryz.func115 ?_;refine goL ?_;refine cC (bq true) (goL ?_);exact rR gI ⟨rfl, LE.of rfl, rfl, LE.of rfl, trivial⟩
 rw [if_neg hon] at hX;have hon : c.on = true := by simpa using hon
 cases q1 with
 | true =>
  rw [if_pos rfl] at hX;subst hX;obtain ⟨on, done, ended, nonce, body, wrap, ak, base, sess, name, pw, seed, ctr, tick, host, key, marks⟩ := c;simp only at hon;subst hon;refine pmv {} Tryz.func115 ?_;refine goL ?_;refine cC hr (goL ?_);refine cC (bq true) (goL ?_);exact rR gI ⟨rfl, LE.of rfl, rfl, LE.of rfl, trivial⟩
 | false =>
 rw [if_neg (by decide)] at hX;cases eu : ao kD 3 t with
 | some l =>
  rw [eu] at hX hu;simp only at hX;have hl := aY eu;have hlw : ∀ i, wt (at_ l i) <= 1000000000 := fun i => dp (fun u hu => Nat.le_trans (bV eu u hu) hw) (by decide) i
  have he := Ez c (at_ l 0) (at_ l 1) (at_ l 2) hn (hlw 1) (hlw 2);revert he hX;generalize nh c (at_ l 0) (at_ l 1) (at_ l 2) = z;obtain ⟨c2, e2⟩ := z;intro hX he;subst hX;obtain ⟨on, done, ended, nonce, body, wrap, ak, base, sess, name, pw, seed, ctr, tick, host, key, marks⟩ := c;simp only at hon;subst hon;refine pmv { own := oO [100057] } Tryz.func115 ?_;refine goL ?_;refine cC hr (goL ?_);refine cC hu (goL ?_);refine cC (bq true) (goL ?_);refine ⟨_, ap (l := l) (i := 0) (by omega), rfl, rfl, goL ?_⟩;refine ⟨_, ap (l := l) (i := 1) (by omega), rfl, rfl, goL ?_⟩;refine ⟨_, ap (l := l) (i := 2) (by omega), rfl, rfl, goL ?_⟩;refine ac.go gI he (goL ?_);exact rR gI ⟨rfl, LE.of rfl, rfl, LE.of rfl, trivial⟩
 | none =>
 rw [eu] at hX hu;simp only at hX;have ha := tQ true c.ak t c.nonce (by omega) (aE _ hw);have w1 := uz c.ak c.nonce t;revert ha w1 hX;generalize bn c.ak c.nonce t = a;obtain ⟨x1, e1'⟩ := a;intro hX ha w1;simp only at hX w1;have hf := mC x1 e1' cO 2 (by decide) (aE _ (by omega));have sf := @iM x1 e1' cO 2;revert hf sf hX;generalize ba x1 e1' cO 2 = f;obtain ⟨f, e2⟩ := f;intro hX hf sf;simp only at hX sf
 by_cases g : e2 = 0
 ·subst g;rw [if_neg (by decide)] at hX;obtain ⟨hfl, hfw⟩ := sf rfl;have hfw' : ∀ i, wt (at_ f i) <= 1000000000 := fun i => dp (fun u hu => Nat.le_trans (hfw u hu) (by omega)) (by decide) i
  have hd := EA c (at_ f 0) now x (hfw' 0) hx h0 h1 n0 n1;obtain ⟨m1, m2, m3⟩ := wr c (at_ f 0) now x;have htg := rO true (at_ f 0);revert hd m1 m2 m3 hX;generalize dr c (at_ f 0) now x = d;obtain ⟨c2, pd, bs, e3⟩ := d;intro hX hd m1 m2 m3;simp only at hX m1 m2 m3;have hon' : c = { c with on := true } := by
   cases c;simp only at hon;subst hon;rfl
  by_cases g3 : e3 = 0
  ·subst g3;rw [if_neg (by decide)] at hX;have hsz : ((mkL c2.marks).length + 1) * 32 <= 140737488355328 := by rw [Ex, m1]; omega
   have hsy := xF (xG c (c2, pd, bs, 0) f) pd (at_ f 1);subst hX;obtain ⟨on, done, ended, nonce, body, wrap, ak, base, sess, name, pw, seed, ctr, tick, host, key, marks⟩ := c;simp only at hon;subst hon;refine pmv { own := oO [100090, 123, 100133], ps := psT [(10, [14]), (14, [17, 18])], kp := kpT [(14, [0, 2, 7, 8, 9, 15, 16], [7, 8, 2020, 1020]), (15, [0, 8, 9, 15, 16, 17, 18], [8, 17, 18, 2020, 1020]), (18, [0, 8, 9, 16, 17], [8, 17, 2020, 1020]), (19, [0, 8, 9, 16, 17], [8, 17, 2020, 1020])], tr := trT [(14, [0, 0, 2, 6, 0, 0, 63, 127, 255, 255, 255, 0, 0, 6655, 15359, 32767], qQ [0, 1, 2, 3, 4, 5] (.alt (qQ [6, 7, 8, 9, 10, 11, 12, 13, 14, 15] .fin) (.alt (.one 11 (.alt (qQ [6, 7, 8, 9, 10, 12, 13, 14, 15] .fin) (qQ [12, 6, 7, 8, 9, 10, 13, 14, 15] .fin))) (.one 12 (.alt (qQ [6, 7, 8, 9, 10, 11, 13, 14, 15] .fin) (qQ [11, 6, 7, 8, 9, 10, 13, 14, 15] .fin)))))), (18, [0, 0, 2, 6, 14, 0, 32, 96, 224, 0, 512, 1536, 3584, 7680, 16352, 32736, 65534, 131071, 262143, 524287], qQ [1, 2, 3, 4, 5, 6, 7, 8, 9, 10, 11, 12, 13, 14, 15] (.alt (qQ [0, 16, 17, 18, 19] .fin) (qQ [16, 0, 17, 18, 19] .fin)))] } Tryz.func115 ?_
   refine goL ?_;refine cC hr (goL ?_);refine cC hu (goL ?_);refine cC ha (goL ?_);refine cC hf (goL ?_);refine ⟨_, ap (l := f) (i := 0) (by omega), rfl, rfl, ?_⟩
   repeat' ((conv => whnf); first | refine sS ?_ | refine aQ ?_ ?_ | refine ⟨_, ac.pr gI hd ⟨LE.of rfl, LE.of rfl, LE.of rfl, LE.of rfl, trivial⟩ (by (conv => whnf); exact ⟨.inr (.inl rfl), .inr (.inl rfl), trivial⟩) rfl, ?_⟩ | fail)
   all_goals (conv => whnf)
   all_goals refine ⟨_, ap (l := f) (i := 0) (by omega), rfl, rfl, goL ?_⟩
   all_goals refine cC htg ?_
   repeat' ((conv => whnf); first | refine sS ?_ | refine aQ ?_ ?_ | refine ⟨hsz, ?_⟩ | fail)
   all_goals (conv => whnf)
   all_goals refine ⟨_, ap (l := f) (i := 1) (by omega), rfl, rfl, goL ?_⟩
   all_goals refine ⟨_, ac.pr gI hsy ⟨LE.of rfl, LE.of rfl, LE.of rfl, trivial⟩ (by (conv => whnf); exact ⟨.inr (.inl rfl), .inr (.inl (congrArg (AO.row 227 2) (Ey c2.marks (fq (at_ f 0), c2.nonce)))), trivial⟩) rfl, goL ?_⟩
   all_goals exact rR gI ⟨rfl, LE.of rfl, rfl, LE.of rfl, trivial⟩
  ·rw [if_pos g3] at hX;subst hX;obtain ⟨on, done, ended, nonce, body, wrap, ak, base, sess, name, pw, seed, ctr, tick, host, key, marks⟩ := c;simp only at hon;subst hon;refine pmv { own := oO [100090, 123, 100133], ps := psT [(10, [14]), (14, [17, 18])], kp := kpT [(14, [0, 2, 7, 8, 9, 15, 16], [7, 8, 2020, 1020]), (15, [0, 8, 9, 15, 16, 17, 18], [8, 17, 18, 2020, 1020]), (18, [0, 8, 9, 16, 17], [8, 17, 2020, 1020]), (19, [0, 8, 9, 16, 17], [8, 17, 2020, 1020])], tr := trT [(14, [0, 0, 2, 6, 0, 0, 63, 127, 255, 255, 255, 0, 0, 6655, 15359, 32767], qQ [0, 1, 2, 3, 4, 5] (.alt (qQ [6, 7, 8, 9, 10, 11, 12, 13, 14, 15] .fin) (.alt (.one 11 (.alt (qQ [6, 7, 8, 9, 10, 12, 13, 14, 15] .fin) (qQ [12, 6, 7, 8, 9, 10, 13, 14, 15] .fin))) (.one 12 (.alt (qQ [6, 7, 8, 9, 10, 11, 13, 14, 15] .fin) (qQ [11, 6, 7, 8, 9, 10, 13, 14, 15] .fin)))))), (18, [0, 0, 2, 6, 14, 0, 32, 96, 224, 0, 512, 1536, 3584, 7680, 16352, 32736, 65534, 131071, 262143, 524287], qQ [1, 2, 3, 4, 5, 6, 7, 8, 9, 10, 11, 12, 13, 14, 15] (.alt (qQ [0, 16, 17, 18, 19] .fin) (qQ [16, 0, 17, 18, 19] .fin)))] } Tryz.func115 ?_
   refine goL ?_;refine cC hr (goL ?_);refine cC hu (goL ?_);refine cC ha (goL ?_);refine cC hf (goL ?_);refine ⟨_, ap (l := f) (i := 0) (by omega), rfl, rfl, ?_⟩
   repeat' ((conv => whnf); first | refine sS ?_ | refine aQ ?_ ?_ | refine ⟨_, ac.pr gI hd ⟨LE.of rfl, LE.of rfl, LE.of rfl, LE.of rfl, trivial⟩ (by (conv => whnf); exact ⟨.inr (.inl rfl), .inr (.inl rfl), trivial⟩) rfl, ?_⟩ | fail)
   all_goals (conv => whnf)
   all_goals refine aa ?_ ?_ <;> intro h3
   all_goals first | exact absurd (by simpa using h3) g3 | skip
   all_goals
    refine goL ?_
   all_goals refine cC (bq true) (goL ?_)
   all_goals exact rR gI ⟨rfl, LE.of rfl, rfl, LE.of rfl, trivial⟩
 ·rw [if_pos g] at hX;subst hX;obtain ⟨on, done, ended, nonce, body, wrap, ak, base, sess, name, pw, seed, ctr, tick, host, key, marks⟩ := c;simp only at hon;subst hon;refine pmv { ps := psT [(10, [14])] } Tryz.func115 ?_;refine goL ?_;refine cC hr (goL ?_);refine cC hu (goL ?_);refine cC ha (goL ?_);refine cC hf (goL ?_);refine aa ?_ ?_ <;> intro h3
  ·refine goL ?_;refine cC (bq true) (goL ?_);exact rR gI ⟨rfl, LE.of rfl, rfl, LE.of rfl, trivial⟩
  ·exact absurd (by simpa using h3) g
end Go.Sl
namespace Go.Sl
open Go Go.Vc Go.Proofs Go.RowKit
structure G (d w s : Nat) (t : Tm) : Prop where
 shp : t.shp = true
 dep : t.depth <= d
 wt : wt t <= w
 sz : t.size <= s
structure GL (d w s : Nat) (l : List Tm) : Prop where
 shp : ∀ t ∈ l, t.shp = true
 dep : Tm.depths l <= d
 wt : wts l <= w
 sz : Tm.sizes l <= s
theorem G.mono {d w s d' w' s' : Nat} {t : Tm} (h : G d w s t) (hd : d <= d') (hw : w <= w') (hs : s <= s') : G d' w' s' t :=
 ⟨h.shp, Nat.le_trans h.dep hd, Nat.le_trans h.wt hw, Nat.le_trans h.sz hs⟩
theorem GL.nil {d : Nat} : GL d 0 0 [] := ⟨fun t h => (by cases h), Nat.zero_le _, Nat.le_refl _, Nat.le_refl _⟩
theorem GL.cons {d w s w' s' : Nat} {t : Tm} {l : List Tm} (h : G d w s t) (hl : GL d w' s' l) : GL d (w + w') (s + s') (t :: l) :=
 ⟨fun u hu => by
  rcases List.mem_cons.1 hu with rfl | hu
  ·exact h.shp
  ·exact hl.shp u hu, by simp only [Tm.depths]; have := h.dep; have := hl.dep; omega, by simp only [wts]; have := h.wt; have := hl.wt; omega, by simp only [Tm.sizes]; have := h.sz; have := hl.sz; omega⟩
theorem G.of {d w s : Nat} {k : Int} {n : Bs} {l : List Tm} (hk : Tm.known k = true) (hn : (Tm.named k == !n.isEmpty) = true) (ha : Tm.arity k < 0 \/ (l.length : Int) = Tm.arity k) (hl : GL d w s l) : G (d + 1) (w + n.length + 1) (s + 1) (.mk k n l) :=
 ⟨(iD _).2 ⟨⟨hk, hn, ha⟩, hl.shp⟩, by simp only [Tm.depth]; have := hl.dep; omega, by rw [bR]; have := hl.wt; show n.length + wts l + 1 <= _; omega, by simp only [Tm.size]; have := hl.sz; omega⟩
theorem gR {n : Bs} (h : n ≠ []) (k : Int) (hk : Tm.named k = true) : (Tm.named k == !n.isEmpty) = true := by
 rw [hk];cases n with
 | nil => exact absurd rfl h
 | cons => rfl
theorem G.data {d w s : Nat} {n : Bs} (h : n ≠ []) (hd : 1 <= d) (hw : n.length + 1 <= w) (hs : 1 <= s) : G d w s (bK n) :=
 (G.of (d := 0) (by decide) (gR h 1 rfl) (.inr rfl) GL.nil).mono hd (by omega) hs
theorem G.atom {d w s : Nat} {n : Bs} (h : n ≠ []) (hd : 1 <= d) (hw : n.length + 1 <= w) (hs : 1 <= s) : G d w s (cI n) :=
 (G.of (d := 0) (by decide) (gR h 2 rfl) (.inr rfl) GL.nil).mono hd (by omega) hs
theorem G.pair {d w s : Nat} {l : List Tm} (hl : GL d w s l) : G (d + 1) (w + 1) (s + 1) (kc l) := G.of (k := 3) (n := []) (by decide) (by decide) (.inl (by decide)) hl
theorem G.enc {d w s w' s' : Nat} {k t : Tm} (h : G d w s k) (h' : G d w' s' t) : G (d + 1) (w + w' + 1) (s + s' + 1) (yk k t) :=
 (G.of (by decide) (by decide) (.inr rfl) (GL.cons h (GL.cons h' GL.nil))).mono (Nat.le_refl _) (by simp only [List.length_nil]; omega) (by omega)
theorem G.hash {d w s : Nat} {t : Tm} (h : G d w s t) : G (d + 1) (w + 1) (s + 1) (bN t) :=
 (G.of (by decide) (by decide) (.inr rfl) (GL.cons h GL.nil)).mono (Nat.le_refl _) (by simp only [List.length_nil]; omega) (by omega)
theorem G.kdf {d w s : Nat} {t : Tm} {n : Bs} (hn : n ≠ []) (h : G d w s t) : G (d + 1) (w + n.length + 1) (s + 1) (jp t n) :=
 (G.of (by decide) (gR hn 7 rfl) (.inr rfl) (GL.cons h GL.nil)).mono (Nat.le_refl _) (by omega) (by omega)
theorem G.pub {d w s : Nat} {t : Tm} (h : G d w s t) : G (d + 1) (w + 1) (s + 1) (.mk 8 [] [t]) :=
 (G.of (by decide) (by decide) (.inr rfl) (GL.cons h GL.nil)).mono (Nat.le_refl _) (by simp only [List.length_nil]; omega) (by omega)
theorem G.mask {d w s w' s' : Nat} {k t : Tm} (h : G d w s k) (h' : G d w' s' t) : G (d + 1) (w + w' + 1) (s + s' + 1) (.mk 10 [] [k, t]) :=
 (G.of (by decide) (by decide) (.inr rfl) (GL.cons h (GL.cons h' GL.nil))).mono (Nat.le_refl _) (by simp only [List.length_nil]; omega) (by omega)
theorem G.share {d w s w' s' : Nat} {x y : Tm} (h : G d w s x) (h' : G d w' s' y) : G (d + 1) (w + w' + 1) (s + s' + 1) (jq x y) := by
 unfold jq;split
 ·exact (G.of (by decide) (by decide) (.inr rfl) (GL.cons h' (GL.cons h GL.nil))).mono (Nat.le_refl _) (by simp only [List.length_nil]; omega) (by omega)
 ·exact (G.of (by decide) (by decide) (.inr rfl) (GL.cons h (GL.cons h' GL.nil))).mono (Nat.le_refl _) (by simp only [List.length_nil]; omega) (by omega)
theorem G.pack {d w s : Nat} {tag : Bs} {l : List Tm} (ht : tag ≠ []) (hd : 1 <= d) (hl : GL d w s l) : G (d + 1) (w + tag.length + 2) (s + 2) (ay tag l) :=
 (G.pair (GL.cons (G.data (d := d) ht hd (Nat.le_refl _) (Nat.le_refl _)) hl)).mono (Nat.le_refl _) (by omega) (by omega)
theorem cB {n : Int} (h0 : -9223372036854775808 <= n) (h1 : n <= 9223372036854775807) : (Lib.itoa n).length <= 30 := by
 have := bj h0 h1;omega
theorem G.num {d w s : Nat} {k : Tm} {what : Bs} {n : Int} (h : G d w s k) (h0 : -9223372036854775808 <= n) (h1 : n <= 9223372036854775807) : G (d + 1) (w + what.length + 40) (s + 1) (er k what n) := by
 have hl := cB h0 h1;refine (G.kdf (by simp) h).mono (Nat.le_refl _) ?_ (Nat.le_refl _);rw [List.length_append, List.length_append];show w + (what.length + 1 + (Lib.itoa n).length) + 1 <= _;omega
theorem G.shut {d w s w' s' : Nat} {k t : Tm} {n : Int} (h : G d w s k) (h' : G (d + 1) w' s' t) (h0 : -9223372036854775808 <= n) (h1 : n <= 9223372036854775807) : G (d + 2) (w + w' + 50) (s + s' + 2) (bf k n t) :=
 (G.enc (G.num h h0 h1) h').mono (Nat.le_refl _) (by show w + 3 + 40 + w' + 1 <= _; omega) (by omega)
theorem G.join {d w s w' s' : Nat} {a c : Tm} {fa fb : Bs} (h : G d w s a) (h' : G d w' s' c) (hfa : fa.length <= 30) (hfb : fb.length <= 30) : G (d + 3) (w + w' + 80) (s + s' + 4) (db a c fa fb) := by
 have hj : tO.length = 5 := rfl;refine (G.hash (G.pair (GL.cons (G.kdf (n := tO ++ fa) (by simp) h) (GL.cons (G.kdf (n := tO ++ fb) (by simp) h') GL.nil)))).mono (Nat.le_refl _) ?_ (by omega);rw [List.length_append, List.length_append, hj];omega
theorem G.kid {d w s : Nat} {t u : Tm} (h : G (d + 1) w s t) (hu : u ∈ t.kids) : G d w s u :=
 ⟨((iD t).1 h.shp).2 u hu, by have := kz hu; have := h.dep; omega, by have := fJ hu; have := bR t; have := h.wt; omega, by have := Tm.size_mem hu; have := Tm.size_eq t; have := h.sz; omega⟩
theorem eO {tag : Bs} {n : Nat} {t : Tm} {l : List Tm} (h : ao tag n t = some l) : t = ay tag l /\ l.length = n /\ tag ≠ [] := by
 have hl := aY h;unfold ao at h;split at h
 ·rename_i hc;cases h;obtain ⟨h1, h2, h3⟩ := hc;refine ⟨?_, hl, h1⟩;obtain ⟨k, nm, kids⟩ := t;have h3 : kids.length = n + 1 := h3;have h2 : (if k = 3 /\ nm = [] then (match kids with | [] => [] | x :: _ => if x.kind = 1 /\ x.kids = [] then x.name else []) else []) = tag := h2
  by_cases hk : k = 3 /\ nm = []
  ·rw [if_pos hk] at h2;obtain ⟨rfl, rfl⟩ := hk;cases kids with
   | nil => exact absurd h2.symm h1
   | cons x r =>
    have h2 : (if x.kind = 1 /\ x.kids = [] then x.name else []) = tag := h2
    by_cases hx : x.kind = 1 /\ x.kids = []
    ·rw [if_pos hx] at h2;obtain ⟨xk, xn, xl⟩ := x;obtain ⟨e1, e2⟩ := hx;have e1 : xk = 1 := e1;have e2 : xl = [] := e2;have h2 : xn = tag := h2;subst e1 e2 h2;rfl
    ·rw [if_neg hx] at h2;exact absurd h2.symm h1
  ·rw [if_neg hk] at h2;exact absurd h2.symm h1
 ·cases h
theorem yZ {k : Tm} {n : Int} {t : Tm} (hs : t.shp = true) (h : (aI k n t).2 = 0) : t = bf k n (aI k n t).1 := by
 unfold aI at h ⊢;split
 ·rename_i hc;rw [dif_pos hc] at h;split at h
  ·rename_i hk;rw [if_pos hk];obtain ⟨tk, tn, tl⟩ := t;obtain ⟨h1, h2⟩ := hc;simp only [Tm.kind, Tm.kids] at h1 h2 hk;subst h1;have hn : tn = [] := by
    have := ((iD _).1 hs).1.2.1;simp only [Tm.kind, Tm.name] at this;cases tn with
    | nil => rfl
    | cons => cases this
   subst hn
   match tl, h2 with
   | [x, y], _ =>
    simp only [Tm.kids, List.getElem_cons_zero, List.getElem_cons_succ] at hk ⊢;unfold bf;rw [<- hk]
  ·cases h
 ·rename_i hc;rw [dif_neg hc] at h;cases h
theorem j0 {k : Tm} {n : Int} {t : Tm} {tag : Bs} {m : Nat} (hs : t.shp = true) (h : (ax k n t tag m).2 = 0) : t = bf k n (ay tag (ax k n t tag m).1) /\ (ax k n t tag m).1.length = m := by
 refine ⟨?_, fh h⟩;unfold ax at h ⊢;split at h
 ·exact absurd h (by assumption)
 ·rename_i hc;rw [if_neg hc];have hc' : (aI k n t).2 = 0 := by simpa using hc
  split at h
  ·cases h
  ·rename_i l e;simp only [e];have h1 := yZ hs hc';have h2 := (eO e).1;rw [<- h2];exact h1
theorem uA {l : List Tm} (h : l.length = 1) : l = [at_ l 0] := by
 match l, h with
 | [x], _ => rfl
theorem uB {l : List Tm} (h : l.length = 2) : l = [at_ l 0, at_ l 1] := by
 match l, h with
 | [x, y], _ => rfl
theorem Fo {l : List Tm} (h : l.length = 3) : l = [at_ l 0, at_ l 1, at_ l 2] := by
 match l, h with
 | [x, y, z], _ => rfl
theorem gi : dS.length = 4 /\ tS.length = 6 /\ gc.length = 4 /\ ju.length = 4 /\ chW.length = 9 /\ kB.length = 3 /\ lp.length = 4 /\ cW.length = 3 /\ gF.length = 4 /\ Bo.length = 6 /\ spW.length = 5 /\ mg.length = 3 := ⟨rfl, rfl, rfl, rfl, rfl, rfl, rfl, rfl, rfl, rfl, rfl, rfl⟩
theorem sg {d w s : Nat} (hd : 2 <= d) (hw : 6 <= w) (hs : 2 <= s) : G d w s aw :=
 (G.pack (d := 1) (tag := dS) (by decide) (Nat.le_refl _) GL.nil).mono hd (by have := gi; omega) hs
theorem Gr {d w1 s1 w2 s2 w3 s3 : Nat} {x y z : Tm} (h1 : G d w1 s1 x) (h2 : G d w2 s2 y) (h3 : G d w3 s3 z) (hd : 1 <= d) : G (d + 1) (w1 + w2 + w3 + 8) (s1 + s2 + s3 + 2) (iH x y z) :=
 (G.pack (tag := tS) (by decide) hd (GL.cons h1 (GL.cons h2 (GL.cons h3 GL.nil)))).mono (Nat.le_refl _) (by have := gi; omega) (by omega)
theorem Gs {d wa sa wb sb wp sp wc sc : Nat} {ak b p c : Tm} (ha : G (d + 1) wa sa ak) (hb : G d wb sb b) (hp : G (d + 1) wp sp p) (hc : G (d + 1) wc sc c) : G (d + 3) (wa + wb + wp + wc + 60) (sa + sb + sp + sc + 5) (oJ ak b p c) :=
 (G.shut ha (G.pack (tag := gc) (by decide) (by omega) (GL.cons (G.hash hb) (GL.cons hp (GL.cons hc GL.nil)))) (by decide) (by decide)).mono (Nat.le_refl _) (by have := gi; omega) (by omega)
structure ClG (c : Cln) : Prop where
 body : G 2 200 4 c.body
 wrap : G 5 600 30 c.wrap
 ak : G 4 300 10 c.ak
 key : G 2 200 3 c.key
 seed : G 1 100 1 c.seed
 c0 : 0 <= c.ctr
 c1 : c.ctr <= 1000000000000
theorem ws (c : Cln) (o : Tm) (now : Int) (x : Tm) : (dr c o now x).1.body = c.body /\ (dr c o now x).1.wrap = c.wrap /\ (dr c o now x).1.ak = c.ak := by
 unfold dr;split
 ·exact ⟨rfl, rfl, rfl⟩
 split
 ·simp only;split <;> exact ⟨rfl, rfl, rfl⟩
 split <;> exact ⟨rfl, rfl, rfl⟩
theorem y4 (c : Cln) (t : Tm) (now : Int) (x : Tm) (hs : t.shp = true) : (bz c t now x).2.1 = aw \/
  (c.on = true /\ ∃ o ck, t = kA c.ak c.nonce (ay cO [o, ck]) /\ (dr c o now x).2.2.2 = 0 /\ (bz c t now x).2.1 = iH c.body c.wrap (oJ c.ak c.body (dr c o now x).2.1 ck)) := by
 unfold bz;split
 ·exact .inl rfl
 rename_i hon;split
 ·exact .inl rfl
 split
 ·exact .inl rfl
 split
 ·exact .inl rfl
 rename_i ho;have ho : (ba (bn c.ak c.nonce t).1 (bn c.ak c.nonce t).2 cO 2).2 = 0 := by simpa using ho
 simp only;split
 ·exact .inl rfl
 rename_i hd;have hd := Classical.not_not.1 hd;refine .inr ⟨by simpa using hon, ?_⟩;generalize hl : (ba (bn c.ak c.nonce t).1 (bn c.ak c.nonce t).2 cO 2).1 = l at hd ⊢;obtain ⟨k1, k2, k3⟩ := ws c (at_ l 0) now x;refine ⟨at_ l 0, at_ l 1, ?_, hd, ?_⟩
 ·unfold ba at ho hl;split at ho
  ·exact absurd ho (by assumption)
  ·rename_i he;rw [if_neg he] at hl;have he : (bn c.ak c.nonce t).2 = 0 := by simpa using he
   split at ho
   ·cases ho
   ·rename_i l' e;rw [e] at hl;simp only at hl;subst hl;obtain ⟨e1, e2, _⟩ := eO e;unfold bn at he e1;split at he
    ·exact absurd he (by assumption)
    ·rename_i h1;rw [if_neg h1] at e1;split at he
     ·cases he
     ·rename_i h2;rw [if_neg h2] at e1;have h1 := Classical.not_not.1 h1;have h2 := Classical.not_not.1 h2;obtain ⟨q1, q2⟩ := j0 hs h1;rw [uB q2, h2] at q1;simp only at e1;rw [e1, uB e2] at q1;exact q1
 ·unfold eF xG;simp only;rw [k1, k2, k3]
theorem Gt {c : Cln} (h : ClG c) {o x : Tm} {now : Int} (hx : G 1 100 1 x) (n0 : -1000000000000 <= now) (n1 : now <= 1000000000000) {w : Nat} (ho : G 51 w 60 o) (he : (dr c o now x).2.2.2 = 0) : G 56 (3 * w + 5000) 400 (dr c o now x).2.1 := by
 unfold dr at he ⊢;split
 ·-- a challenge
  have h1 : G 7 600 20 (gf c.ak c.key) := (G.join h.ak (h.key.mono (by omega) (Nat.le_refl _) (Nat.le_refl _)) (by decide) (by decide)).mono (Nat.le_refl _) (by omega) (by omega);have h2 : G 8 400 10 (ay ju [cN (Lib.itoa now), bN c.body]) :=
   (G.pack (d := 7) (tag := ju) (by decide) (by omega) (GL.cons (G.data (n := 61 :: Lib.itoa now) (w := 40) (s := 1) (by simp) (by omega) (by have := cB (n := now) (by omega) (by omega); simp only [List.length_cons]; omega) (by omega)) (GL.cons ((G.hash h.body).mono (by omega) (Nat.le_refl _) (Nat.le_refl _)) GL.nil))).mono (Nat.le_refl _) (by have := gi; omega) (by omega)
  exact (G.pack (d := 9) (tag := chW) (by decide) (by omega) (GL.cons (G.shut h1 h2 (by decide) (by decide)) GL.nil)).mono (by omega) (by have := gi; omega) (by omega)
 rename_i g1;rw [if_neg g1] at he;split
 ·-- a code
  rename_i g2;rw [if_pos g2] at he;simp only at he ⊢;unfold dI at he ⊢;split
  ·rename_i e; rw [e] at he; cases he
  ·rename_i l e;obtain ⟨e1, e2, _⟩ := eO e;rw [uA e2] at e1;have h0 : G 50 w 60 (at_ l 0) := ho.kid (by rw [e1]; exact List.mem_cons_of_mem _ (List.mem_cons_self ..));have h1 : G 50 200 5 (er c.seed kB c.ctr) := (G.num h.seed (by have := h.c0; omega) (by have := h.c1; omega)).mono (by omega) (by have := gi; omega) (by omega);have h2 := G.pack (tag := lp) (by decide) (by omega) (GL.cons h0 (GL.cons h1 GL.nil));exact (G.pack (tag := cW) (by decide) (by omega) (GL.cons (G.shut (h.ak.mono (d' := 50) (by omega) (Nat.le_refl _) (Nat.le_refl _)) h2 (by decide) (by decide)) GL.nil)).mono (by omega) (by have := gi; omega) (by omega)
 rename_i g2;rw [if_neg g2] at he;split
 ·-- a point
  rename_i g3;rw [if_pos g3] at he;simp only at he ⊢;unfold cA at he ⊢;split
  ·rename_i e; rw [e] at he; cases he
  ·rename_i l e;simp only [e] at he;obtain ⟨e1, e2, _⟩ := eO e;rw [uA e2] at e1;have h0 : G 50 w 60 (at_ l 0) := ho.kid (by rw [e1]; exact List.mem_cons_of_mem _ (List.mem_cons_self ..));split
   ·rename_i g; rw [if_pos g] at he; exact absurd he g
   ·rename_i g;have g := Classical.not_not.1 g;have hy : G 48 w 60 (aF (at_ l 0) c.key).1 := by
     unfold aF at g ⊢;split at g
     ·rename_i q1;rw [if_pos q1];split at g
      ·rename_i q2;rw [if_pos q2];split at g
       ·rename_i q3;rw [if_pos q3];have m0 : at_ (at_ l 0).kids 0 ∈ (at_ l 0).kids := by rw [uB q1.2]; exact List.mem_cons_self ..
        have m1 : at_ (at_ (at_ l 0).kids 0).kids 0 ∈ (at_ (at_ l 0).kids 0).kids := by
         have := uA q2.2;exact this ▸ List.mem_cons_self ..
        exact (h0.kid (d := 49) m0).kid (d := 48) m1
       ·cases g
      ·cases g
     ·cases g
    revert hy;generalize (aF (at_ l 0) c.key).1 = y;intro hy;have hm : G 4 400 8 (a7 x c.key) := (G.mask ((G.pub hx).mono (d' := 3) (by omega) (Nat.le_refl _) (Nat.le_refl _)) ((G.kdf (n := gF) (by decide) h.key).mono (d' := 3) (by omega) (Nat.le_refl _) (Nat.le_refl _)) |>.mono (by omega) (by have := gi; omega) (by omega) : G 4 400 8 (.mk 10 [] [.mk 8 [] [x], jp c.key gF]))
    have hsh : G 50 (w + 200) 70 (jq x y) := (G.share (hx.mono (d' := 48) (by omega) (Nat.le_refl _) (Nat.le_refl _)) hy).mono (by omega) (by omega) (by omega);have hq : G 53 (2 * w + 2000) 200 (gg x y c.key (at_ l 0) (a7 x c.key) c.body 1) := by
     unfold gg nG;have hk : G 50 300 5 (jp c.key gF) := (G.kdf (n := gF) (by decide) h.key).mono (by omega) (by have := gi; omega) (by omega);have hb : G 50 300 5 (bN c.body) := (G.hash h.body).mono (by omega) (by omega) (by omega);exact (G.num (G.hash (G.pair (GL.cons hsh (GL.cons hk (GL.cons h0 (GL.cons (hm.mono (d' := 50) (by omega) (Nat.le_refl _) (Nat.le_refl _)) (GL.cons hb GL.nil))))))) (by decide) (by decide)).mono (by omega) (by have := gi; omega) (by omega)
    have hf : G 55 (2 * w + 3000) 220 (d8 x y c.key (at_ l 0) (a7 x c.key) c.body) := by
     unfold d8;have hp : G 54 20 2 (ay Bo []) := (G.pack (d := 1) (tag := Bo) (by decide) (Nat.le_refl _) GL.nil).mono (by omega) (by have := gi; omega) (Nat.le_refl _);exact (G.shut hq hp (by decide) (by decide)).mono (by omega) (by omega) (by omega)
    exact (G.pack (tag := spW) (by decide) (by omega) (GL.cons (hm.mono (d' := 55) (by omega) (Nat.le_refl _) (Nat.le_refl _)) (GL.cons hf GL.nil))).mono (by omega) (by have := gi; omega) (by omega)
 ·rename_i g3;rw [if_neg g3] at he;cases he
theorem BQ {c : Cln} (h : ClG c) {pd ck : Tm} {w w' : Nat} (hp : G 56 w 400 pd) (hc : G 56 w' 60 ck) : G 59 (w + w' + 2000) 600 (iH c.body c.wrap (oJ c.ak c.body pd ck)) :=
 (Gr (h.body.mono (d' := 58) (by omega) (Nat.le_refl _) (Nat.le_refl _)) (h.wrap.mono (d' := 58) (by omega) (Nat.le_refl _) (Nat.le_refl _)) (Gs (d := 55) (h.ak.mono (by omega) (Nat.le_refl _) (Nat.le_refl _)) (h.body.mono (by omega) (Nat.le_refl _) (Nat.le_refl _)) hp hc) (by omega)).mono (by omega) (by omega) (by omega)
theorem gJ {tag : Bs} {l : List Tm} (h : tag ≠ dS) : b7 (ay tag l) = false := by
 unfold b7 ao;have e : fq (ay tag l) = tag := by unfold fq ay; rw [if_pos ⟨rfl, rfl⟩]; rfl
 rw [e, if_neg (fun hc => h hc.2.1)];rfl
theorem wu {k t : Tm} : b7 (yk k t) = false := by
 unfold b7 ao;have e : fq (yk k t) = [] := by unfold fq; rw [if_neg (fun hc => absurd (show (4 : Int) = 3 from hc.1) (by decide))]
 rw [e, if_neg (fun hc => absurd (show ([] : Bs) = dS from hc.2.1) (by decide))];rfl
structure cY (p : Tm) : Prop where
 g : G 60 100000000 10000 p
 nn : b7 p = false
 ask : ∀ b w s, p = iH b w s -> p.depth <= 59 /\ w.depth <= 5 /\ wt b <= 1000 /\ wt p <= 20000000 /\ p.size <= 2000
 ans : ∀ ak n o c, p = kA ak n (ay cO [o, c]) -> G 51 3000000 60 o /\ G 51 3000000 60 c
structure mD (t : Tm) : Prop where
 shp : t.shp = true
 sz : t.size <= 60
 wt : wt t <= 1200000
theorem eP : ∀ t : Tm, t.depth <= t.size := by
 intro t
 induction t using Tm.indk with
 | h t ih =>
  have key : ∀ l : List Tm, (∀ u ∈ l, u.depth <= u.size) -> Tm.depths l <= Tm.sizes l := by
   intro l
   induction l with
   | nil => intro _; exact Nat.le_refl _
   | cons u l ihl =>
    intro h;have h1 := h u (List.mem_cons_self ..);have h2 := ihl fun v hv => h v (List.mem_cons_of_mem _ hv)
    simp only [Tm.depths, Tm.sizes];omega
  have := key t.kids ih;obtain ⟨k, n, l⟩ := t;simp only [Tm.depth, Tm.size];have e : Tm.kids (.mk k n l) = l := rfl;rw [e] at this;omega
theorem mD.g {t : Tm} (h : mD t) : G 60 1200000 60 t := ⟨h.shp, by have := eP t; have := h.sz; omega, h.wt, h.sz⟩
def lG (t : Tm) : Prop := mD t \/ cY t
theorem lG.shp {t : Tm} (h : lG t) : t.shp = true := h.elim (·.shp) (·.g.shp)
theorem y5 {ak : Tm} {n : Bs} {o c : Tm} (h : mD (kA ak n (ay cO [o, c]))) : G 51 3000000 60 o /\ G 51 3000000 60 c := by
 obtain ⟨h1, h2, h3⟩ := h;have hg : G 60 1200000 60 (kA ak n (ay cO [o, c])) := mD.g ⟨h1, h2, h3⟩;have hm : G 58 1200000 60 (ay cO [o, c]) := ((hg.kid (d := 59) (u := ay cz [bK (61 :: n), ay cO [o, c]]) (List.mem_cons_of_mem _ (List.mem_cons_self ..))).kid (d := 58) (List.mem_cons_of_mem _ (List.mem_cons_of_mem _ (List.mem_cons_self ..))))
 have ho : G 57 1200000 60 o := hm.kid (List.mem_cons_of_mem _ (List.mem_cons_self ..));have hc : G 57 1200000 60 c := hm.kid (List.mem_cons_of_mem _ (List.mem_cons_of_mem _ (List.mem_cons_self ..)));have hs : (kA ak n (ay cO [o, c])).size = ak.size + o.size + c.size + 7 := by
  simp only [kA, bf, ay, er, Tm.size, Tm.sizes];omega
 have p1 := Tm.size_pos ak;have p2 := Tm.size_pos o;have p3 := Tm.size_pos c;have d1 := eP o;have d2 := eP c;exact ⟨⟨ho.shp, by omega, by have := ho.wt; omega, by omega⟩, ⟨hc.shp, by omega, by have := hc.wt; omega, by omega⟩⟩
theorem xH {b w s b' w' s' : Tm} (h : iH b w s = iH b' w' s') : b = b' /\ w = w' /\ s = s' := by
 simp only [iH, ay, Tm.mk.injEq, List.cons.injEq, and_true, true_and] at h;exact h
theorem y6 {c : Cln} (h : c.on = true -> ClG c) {t x : Tm} {now : Int} (hx : G 1 100 1 x) (n0 : -1000000000000 <= now) (n1 : now <= 1000000000000) (ht : lG t) : (bz c t now x).2.1 = aw \/ cY (bz c t now x).2.1 := by
 rcases y4 c t now x ht.shp with e | ⟨hon, o, ck, e1, e2, e3⟩
 ·exact .inl e
 ·refine .inr ?_;have h := h hon;have hoc : G 51 3000000 60 o /\ G 51 3000000 60 ck := by
   rcases ht with ht | ht
   ·rw [e1] at ht;exact y5 ht
   ·exact ht.ans _ _ _ _ e1
  have hp := Gt h hx n0 n1 hoc.1 e2;have hs := BQ h hp (hoc.2.mono (by omega) (Nat.le_refl _) (Nat.le_refl _));rw [e3];exact
   {g := hs.mono (by omega) (by omega) (by omega)
    nn := gJ (by decide)
    ask := fun b w s e => by
     obtain ⟨rfl, rfl, rfl⟩ := xH e;exact ⟨hs.dep, h.wrap.dep, by have := h.body.wt; omega, by have := hs.wt; omega, by have := hs.sz; omega⟩
    ans := fun ak n o c e => by
     simp only [iH, kA, bf, ay] at e;cases e }
theorem iN {c : Cln} {n : Bs} {sub : Tm} (h : ClG (dg c n sub)) : cY (eF (dg c n sub) aw aw) := by
 have hs : G 59 2012 600 (eF (dg c n sub) aw aw) := BQ h (pd := aw) (ck := aw) (w := 6) (w' := 6) (sg (by omega) (by omega) (by omega)) (sg (by omega) (by omega) (by omega));exact
  {g := hs.mono (by omega) (by omega) (by omega)
   nn := gJ (by decide)
   ask := fun b w s e => by
    obtain ⟨rfl, rfl, rfl⟩ := xH e;exact ⟨hs.dep, h.wrap.dep, by have := h.body.wt; omega, by have := hs.wt; omega, by have := hs.sz; omega⟩
   ans := fun ak n o c e => by
    simp only [eF, iH, kA, bf, ay] at e;cases e }
theorem EB {k t : Tm} (hs : t.shp = true) (h : (cV k t).2 = 0) : ∃ sub host, t = ay dH [bf k 2 (ay co [host]), bf host 11 (ay cM [sub])] /\ (cV k t).1 = db sub host mh hY := by
 unfold cV at h ⊢;split at h
 ·cases h
 ·rename_i l e;obtain ⟨e1, e2, _⟩ := eO e;rw [uB e2] at e1;have hk : ∀ u ∈ t.kids, u.shp = true := ((iD t).1 hs).2;have s0 : (at_ l 0).shp = true := hk _ (by rw [e1]; exact List.mem_cons_of_mem _ (List.mem_cons_self ..));have s1 : (at_ l 1).shp = true := hk _ (by rw [e1]; exact List.mem_cons_of_mem _ (List.mem_cons_of_mem _ (List.mem_cons_self ..)));split at h
  ·exact absurd h (by assumption)
  ·rename_i g1;have g1' := Classical.not_not.1 g1;split at h
   ·exact absurd h (by assumption)
   ·rename_i g2;have g2' := Classical.not_not.1 g2;obtain ⟨q1, q2⟩ := j0 s0 g1';obtain ⟨q3, q4⟩ := j0 s1 g2';rw [if_neg g1, if_neg g2];refine ⟨_, _, ?_, rfl⟩;rw [uA q2] at q1;rw [uA q4] at q3;rw [<- q1, <- q3];exact e1
theorem BR {k x t : Tm} (hs : t.shp = true) (h : (bT k x t).2.2 = 0) : t = oJ k x (bT k x t).1 (bT k x t).2.1 := by
 unfold bT at h ⊢;split at h
 ·exact absurd h (by assumption)
 ·rename_i g1;rw [if_neg g1];split at h
  ·cases h
  ·rename_i g2;rw [if_neg g2];have g1 := Classical.not_not.1 g1;have g2 := Classical.not_not.1 g2;obtain ⟨q1, q2⟩ := j0 hs g1;rw [Fo q2, g2] at q1;exact q1
structure Opd (k : Kd) (m : Tm) (now : Int) (ta : Ta) : Prop where
 eq : ∃ sub host kept, m = iH ta.body (ay dH [bf k.key 2 (ay co [host]), bf host 11 (ay cM [sub])]) (oJ (db sub host mh hY) ta.body ta.pd kept) /\ ta.ak = db sub host mh hY
 u : ta.u ∈ k.us
 client : ta.ck.client.length <= wt ta.body
 nonce : ta.ck.nonce.length <= wt ta.body
 done : ∀ s ∈ ta.ck.done, s ∈ ta.u.set
 less : ta.ck.done.length < ta.u.set.length
 now : ta.now = now
theorem BS (k : Kd) (m : Tm) (now : Int) (hs : m.shp = true) (hk : ∀ u ∈ k.us, 0 < u.set.length) (h : (aK k m now).2 = 0) : Opd k m now (aK k m now).1 := by
 unfold aK at h ⊢;split at h
 ·cases h
 rename_i c1;rw [if_neg c1];split at h
 ·cases h
 rename_i c2;rw [if_neg c2];split at h
 ·rename_i c3; exact absurd h c3
 rename_i c3;rw [if_neg c3];split at h
 ·rename_i c4; exact absurd h c4
 rename_i c4;rw [if_neg c4];split at h
 ·cases h
 rename_i c5;rw [if_neg c5];have hu := up (name := (bB (av m).1).1) (l := k.us) (by simpa using c5);have c3 := Classical.not_not.1 c3;have c4 := Classical.not_not.1 c4;obtain ⟨b1, b2⟩ := ng (av m).1;have hm : m = iH (av m).1 (av m).2.1 (av m).2.2.1 := by
  unfold av at c1 ⊢;split at c1
  ·exact absurd rfl c1
  ·rename_i l e;obtain ⟨e1, e2, _⟩ := eO e;simp only [e];rw [Fo e2] at e1;exact e1
 have hkid : ∀ u ∈ m.kids, u.shp = true := ((iD m).1 hs).2;have sw : (av m).2.1.shp = true := hkid _ (by rw [hm]; exact List.mem_cons_of_mem _ (List.mem_cons_of_mem _ (List.mem_cons_self ..)));have ss : (av m).2.2.1.shp = true := hkid _ (by rw [hm]; exact List.mem_cons_of_mem _ (List.mem_cons_of_mem _ (List.mem_cons_of_mem _ (List.mem_cons_self ..))));obtain ⟨sub, host, q1, q2⟩ := EB sw c3;have q3 := BR ss c4;have heq : ∃ sub host kept, m = iH (av m).1 (ay dH [bf k.key 2 (ay co [host]), bf host 11 (ay cM [sub])]) (oJ (db sub host mh hY) (av m).1 (bT (cV k.key (av m).2.1).1 (av m).1 (av m).2.2.1).1 kept) /\ (cV k.key (av m).2.1).1 = db sub host mh hY :=
  ⟨sub, host, _, by rw [<- q1, <- q2, <- q3]; exact hm, q2⟩
 split at h
 ·rename_i c6;rw [if_pos c6];exact ⟨heq, hu, b1, b2, fun s hs => (by cases hs), hk _ hu, rfl⟩
 ·rename_i c6;rw [if_neg c6];simp only at h;split at h
  ·rename_i c7; exact absurd h c7
  split at h
  ·cases h
  rename_i c8;simp only [not_or, Classical.not_not] at c8;obtain ⟨d1, d2, d3, d4⟩ := c8;refine ⟨heq, hu, by rw [d1]; exact b1, by rw [d2]; exact b2, fun s hs => ?_, Nat.lt_of_not_le d3, rfl⟩;have hs : s ∈ (dw k.cookies (bT (cV k.key (av m).2.1).1 (av m).1 (av m).2.2.1).2.1 now).1.done := hs;rw [d4] at hs;exact List.mem_of_mem_take hs
theorem Gu {m body sub host pd kept key : Tm} (h : lG m) (e : m = iH body (ay dH [bf key 2 (ay co [host]), bf host 11 (ay cM [sub])]) (oJ (db sub host mh hY) body pd kept)) :
  G 49 20000000 2000 sub /\ G 49 20000000 2000 host /\ wt body <= 1200000 /\ G 56 20000000 2000 pd := by
 have hw : ∀ {d w s : Nat}, G (d + 5) w s m -> G (d + 4) w s (ay dH [bf key 2 (ay co [host]), bf host 11 (ay cM [sub])]) := fun h => h.kid (by rw [e]; exact List.mem_cons_of_mem _ (List.mem_cons_of_mem _ (List.mem_cons_self ..)))
 have hsub : ∀ {d w s : Nat}, G (d + 3) w s (ay dH [bf key 2 (ay co [host]), bf host 11 (ay cM [sub])]) -> G d w s sub := fun h =>
  ((h.kid (u := bf host 11 (ay cM [sub])) (List.mem_cons_of_mem _ (List.mem_cons_of_mem _ (List.mem_cons_self ..)))).kid (u := ay cM [sub]) (List.mem_cons_of_mem _ (List.mem_cons_self ..))).kid (List.mem_cons_of_mem _ (List.mem_cons_self ..))
 have hhost : ∀ {d w s : Nat}, G (d + 3) w s (ay dH [bf key 2 (ay co [host]), bf host 11 (ay cM [sub])]) -> G d w s host := fun h =>
  ((h.kid (u := bf key 2 (ay co [host])) (List.mem_cons_of_mem _ (List.mem_cons_self ..))).kid (u := ay co [host]) (List.mem_cons_of_mem _ (List.mem_cons_self ..))).kid (List.mem_cons_of_mem _ (List.mem_cons_self ..))
 have hpd : ∀ {d w s : Nat}, G (d + 3) w s m -> G d w s pd := fun h =>
  ((h.kid (u := oJ (db sub host mh hY) body pd kept) (by rw [e]; exact List.mem_cons_of_mem _ (List.mem_cons_of_mem _ (List.mem_cons_of_mem _ (List.mem_cons_self ..))))).kid (u := ay gc [bN body, pd, kept]) (List.mem_cons_of_mem _ (List.mem_cons_self ..))).kid (List.mem_cons_of_mem _ (List.mem_cons_of_mem _ (List.mem_cons_self ..)))
 have hbody : ∀ {d w s : Nat}, G (d + 1) w s m -> G d w s body := fun h => h.kid (by rw [e]; exact List.mem_cons_of_mem _ (List.mem_cons_self ..))
 rcases h with h | h
 ·have hg := h.g;have hsz : m.size = 2 * body.size + 2 * sub.size + 3 * host.size + pd.size + kept.size + key.size + 21 := by
   rw [e];simp only [iH, ay, bf, oJ, db, er, Tm.size, Tm.sizes];omega
  have h60 := h.sz;have p1 := Tm.size_pos body;have p2 := Tm.size_pos sub;have p3 := Tm.size_pos host;have p4 := Tm.size_pos pd;have p5 := Tm.size_pos kept;have p6 := Tm.size_pos key;have g1 := hsub (hw (d := 55) hg);have g2 := hhost (hw (d := 55) hg);have g3 := hpd (d := 57) hg;have g4 := hbody (d := 59) hg;have d1 := eP sub;have d2 := eP host;have d3 := eP pd;exact ⟨⟨g1.shp, by omega, by have := g1.wt; omega, by omega⟩, ⟨g2.shp, by omega, by have := g2.wt; omega, by omega⟩, g4.wt, ⟨g3.shp, by omega, by have := g3.wt; omega, by omega⟩⟩
 ·obtain ⟨a1, a2, a3, a4, a5⟩ := h.ask _ _ _ e;have hg : G 59 20000000 2000 m := ⟨h.g.shp, a1, a4, a5⟩
  have gw := hw (d := 54) hg;have gw' : G 5 20000000 2000 (ay dH [bf key 2 (ay co [host]), bf host 11 (ay cM [sub])]) := ⟨gw.shp, a2, gw.wt, gw.sz⟩
  exact ⟨(hsub (d := 2) gw').mono (by omega) (Nat.le_refl _) (Nat.le_refl _), (hhost (d := 2) gw').mono (by omega) (Nat.le_refl _) (Nat.le_refl _), by omega, hpd (d := 56) hg⟩
structure KdG (k : Kd) : Prop where
 key : G 1 100 1 k.key
 ck : G 1 100 1 k.cookies
 fits : ib k.cookies = true
 ukey : ∀ u ∈ k.us, G 2 200 3 u.key
 set0 : ∀ u ∈ k.us, 0 < u.set.length
 set3 : ∀ u ∈ k.us, u.set.length <= 3
 words : ∀ u ∈ k.us, ∀ s ∈ u.set, s.length <= 20
 d0 : 0 <= k.drawn
 d1 : k.drawn <= 100000000000
theorem wv {n : Int} (h0 : 0 <= n) (h1 : n <= 200000000000) : G 1 60 1 (dq n) := by
 have hl := cB (n := n) (by omega) (by omega);refine G.atom (by unfold r7; simp) (Nat.le_refl _) ?_ (Nat.le_refl _);rw [List.length_append];show 4 + _ + 1 <= _;omega
theorem ww {s : Bs} (h : s ≠ []) : cd (cI s) = true := by
 have hg : G 1 (s.length + 1) 1 (cI s) := G.atom h (Nat.le_refl _) (Nat.le_refl _) (Nat.le_refl _);unfold cd;rw [(tw _ _).2 ⟨hg.shp, Nat.le_trans hg.dep (by decide)⟩];simp [nr, tq]
theorem qK {s : Bs} (h : s ≠ []) : ib (cI s) = true := by
 unfold ib;rw [ww h];have hg : G 1 (s.length + 1) 1 (cI s) := G.atom h (Nat.le_refl _) (Nat.le_refl _) (Nat.le_refl _);have : rF (cI s) 61 <= 57 := by unfold rF; have := hg.dep; omega
 simp [this]
theorem y7 : ib aw = true := by decide
theorem o3 {f : Bs -> Tm} {n : Nat} (hf : ∀ s : Bs, s.length <= 20 -> G 1 30 1 (f s)) : ∀ {l : List Bs}, (∀ s ∈ l, s.length <= 20) -> l.length <= n -> GL 1 (n * 30) n (l.map f)
 | [], _, _ => ⟨fun t h => (by cases h), Nat.zero_le _, Nat.zero_le _, Nat.zero_le _⟩
 | s :: l, h, hn => by
  cases n with
  | zero => simp at hn
  | succ n =>
   have h1 := o3 (n := n) hf (l := l) (fun s hs => h s (List.mem_cons_of_mem _ hs)) (by simpa using hn);have h2 := GL.cons (hf s (h s (List.mem_cons_self ..))) h1;exact ⟨h2.shp, h2.dep, by have := h2.wt; rw [Nat.succ_mul]; show wts (f s :: l.map f) <= _; omega, by have := h2.sz; show Tm.sizes (f s :: l.map f) <= _; omega⟩
theorem xI {c : UInt8} {s : Bs} (h : s.length <= 20) : G 1 30 1 (bK (c :: s)) := G.data (by simp) (Nat.le_refl _) (by simp only [List.length_cons]; omega) (Nat.le_refl _)
theorem d9 {c : UInt8} {s : Bs} {n d : Nat} (h : s.length <= n) (hd : 1 <= d) : G d (n + 2) 1 (bK (c :: s)) := G.data (by simp) hd (by simp only [List.length_cons]; omega) (Nat.le_refl _)
theorem xJ : cO.length = 4 /\ cz.length = 6 /\ ckW.length = 6 /\ kD.length = 6 /\ nJ.length = 6 /\ nt.length = 3 /\ dy.length = 6 /\ rQ.length <= 30 /\ rS.length <= 30 /\ tT.length = 5 := ⟨rfl, rfl, rfl, rfl, rfl, rfl, rfl, by decide, by decide, rfl⟩
structure TaG (k : Kd) (ta : Ta) : Prop where
 ak : G 52 40000100 4010 ta.ak
 ukey : G 2 200 3 ta.u.key
 client : ta.ck.client.length <= 1200000
 nonce : ta.ck.nonce.length <= 1200000
 words : ∀ s ∈ ta.ck.done, s.length <= 20
 few : ta.ck.done.length <= 3
 n0 : -1000000000000 <= ta.now
 n1 : ta.now <= 1000000000000
theorem BT {k : Kd} (hk : KdG k) {ta : Ta} (h : TaG k ta) {sec : Tm} (hs : G 2 60 2 sec) (hf : ib sec = true) : G 4 3000000 30 (dv k.cookies ⟨ta.ck.client, ta.ck.nonce, ta.ck.done, sec, ta.now + 100⟩) := by
 unfold dv;rw [if_pos ⟨hk.fits, hf⟩];have hl := xJ;have hi := cB (n := ta.now + 100) (by have := h.n0; omega) (by have := h.n1; omega);have hd : G 2 100 4 (kc (ta.ck.done.map fun s => bK (100 :: s))) := (G.pair (o3 (n := 3) (fun s hs => xI hs) h.words h.few)).mono (Nat.le_refl _) (by omega) (by omega);exact (G.enc (hk.ck.mono (d' := 3) (by omega) (Nat.le_refl _) (Nat.le_refl _)) (G.pair (GL.cons (G.data (d := 2) (w := 10) (s := 1) (n := ckW) (by decide) (by omega) (by omega) (by omega)) (GL.cons (d9 (d := 2) h.client (by omega)) (GL.cons (d9 (d := 2) h.nonce (by omega)) (GL.cons hd (GL.cons hs (GL.cons (d9 (d := 2) hi (by omega)) GL.nil)))))))).mono (Nat.le_refl _) (by omega) (by omega)
theorem mE {k : Kd} (hk : KdG k) {ta : Ta} (h : TaG k ta) {sec o : Tm} (hs : G 2 60 2 sec) (hf : ib sec = true) (ho : G 5 500 20 o) : cY (mz k ta sec o) := by
 have hl := xJ;have hc := BT hk h hs hf;have h1 : G 6 3001000 60 (ay cO [o, dv k.cookies ⟨ta.ck.client, ta.ck.nonce, ta.ck.done, sec, ta.now + 100⟩]) := (G.pack (d := 5) (tag := cO) (by decide) (by omega) (GL.cons ho (GL.cons (hc.mono (by omega) (Nat.le_refl _) (Nat.le_refl _)) GL.nil))).mono (Nat.le_refl _) (by omega) (by omega);have h2 := G.pack (d := 52) (tag := cz) (by decide) (by omega) (GL.cons (d9 (c := 61) (d := 52) h.nonce (by omega)) (GL.cons (h1.mono (d' := 52) (by omega) (Nat.le_refl _) (Nat.le_refl _)) GL.nil));have h3 := G.shut (n := 52) h.ak h2 (by decide) (by decide);exact
  {g := h3.mono (by omega) (by omega) (by omega)
   nn := wu
   ask := fun b w s e => by
    simp only [mz, kA, bf, iH, ay] at e;cases e
   ans := fun ak n o' c' e => by
    simp only [mz, kA, bf, ay, Tm.mk.injEq, List.cons.injEq, and_true, true_and] at e;obtain ⟨_, _, rfl, rfl⟩ := e;exact ⟨ho.mono (by omega) (by omega) (by omega), hc.mono (by omega) (by omega) (by omega)⟩ }
theorem o4 {k : Kd} (hk : KdG k) {ta : Ta} (h : TaG k ta) : cY (fv k ta).2 := by
 have hl := gi;have hd := wv (n := k.drawn + 1) (by have := hk.d0; omega) (by have := hk.d1; omega);have hne : dq (k.drawn + 1) = cI (r7 ++ Lib.itoa (k.drawn + 1)) := rfl;have hdf : ib (dq (k.drawn + 1)) = true := qK (by unfold r7; simp);unfold fv;split
 ·exact mE hk h (hd.mono (by omega) (Nat.le_refl _) (by omega)) hdf ((G.pack (d := 1) (tag := cW) (by decide) (Nat.le_refl _) (GL.cons hd GL.nil)).mono (by omega) (by omega) (by omega))
 split
 ·have hm : G 4 400 10 (a7 (dq (k.drawn + 1)) ta.u.key) := (G.mask ((G.pub hd).mono (d' := 3) (by omega) (Nat.le_refl _) (Nat.le_refl _)) (G.kdf (n := gF) (by decide) h.ukey)).mono (by omega) (by omega) (by omega);exact mE hk h (hd.mono (by omega) (Nat.le_refl _) (by omega)) hdf ((G.pack (d := 4) (tag := spW) (by decide) (by omega) (GL.cons hm GL.nil)).mono (by omega) (by omega) (by omega))
 ·exact mE hk h (sg (by omega) (by omega) (by omega)) y7 ((G.pack (d := 1) (tag := chW) (by decide) (Nat.le_refl _) GL.nil).mono (by omega) (by omega) (by omega))
theorem uC {k : Kd} (hk : KdG k) {ta : Ta} (h : TaG k ta) {base : Tm} (hb : G 53 40000500 4020 base) : cY (jZ k ta base) := by
 have hl := xJ;have hd1 := wv (n := k.drawn + 1) (by have := hk.d0; omega) (by have := hk.d1; omega);have hd2 := wv (n := k.drawn + 1 + 1) (by have := hk.d0; omega) (by have := hk.d1; omega);have hi := cB (n := ta.now) (by have := h.n0; omega) (by have := h.n1; omega);have hw : G 2 100 4 (v6 ta.ck.done) := (G.pair (o3 (n := 3) (fun s hs => xI hs) h.words h.few)).mono (Nat.le_refl _) (by omega) (by omega);have ht : G 4 1300000 20 (tkT k ta) :=
  (G.shut (d := 2) (n := 3) (hk.key.mono (by omega) (Nat.le_refl _) (Nat.le_refl _)) (G.pack (d := 2) (tag := nJ) (by decide) (by omega) (GL.cons (d9 (c := 61) (d := 2) h.client (by omega)) (GL.cons (hd1.mono (d' := 2) (by omega) (Nat.le_refl _) (Nat.le_refl _)) (GL.cons hw (GL.cons (d9 (c := 61) (d := 2) hi (by omega)) GL.nil))))) (by decide) (by decide)).mono (Nat.le_refl _) (by omega) (by omega)
 have hh := G.hash ht;have hj := G.join (fa := rQ) (fb := rS) (hd2.mono (d' := 53) (by omega) (Nat.le_refl _) (Nat.le_refl _)) hb (by decide) (by decide);have he := G.shut (n := 3) hj (G.pack (d := 56) (tag := nt) (by decide) (by omega) (GL.cons (hd1.mono (d' := 56) (by omega) (Nat.le_refl _) (Nat.le_refl _)) (GL.cons (d9 (c := 61) (d := 56) h.nonce (by omega)) (GL.cons (hh.mono (d' := 56) (by omega) (Nat.le_refl _) (Nat.le_refl _)) GL.nil)))) (by decide) (by decide);have hf : G 6 1400000 30 (ay dy [dq (k.drawn + 1 + 1), bN (tkT k ta)]) := (G.pack (d := 5) (tag := dy) (by decide) (by omega) (GL.cons (hd2.mono (d' := 5) (by omega) (Nat.le_refl _) (Nat.le_refl _)) (GL.cons hh GL.nil))).mono (Nat.le_refl _) (by omega) (by omega);have hq := G.shut (n := 52) h.ak (G.pack (d := 52) (tag := cz) (by decide) (by omega) (GL.cons (d9 (c := 61) (d := 52) h.nonce (by omega)) (GL.cons (hf.mono (d' := 52) (by omega) (Nat.le_refl _) (Nat.le_refl _)) GL.nil))) (by decide) (by decide)
 have hr := G.pack (d := 58) (tag := kD) (by decide) (by omega) (GL.cons (ht.mono (d' := 58) (by omega) (Nat.le_refl _) (Nat.le_refl _)) (GL.cons he (GL.cons (hq.mono (d' := 58) (by omega) (Nat.le_refl _) (Nat.le_refl _)) GL.nil)));exact
  {g := hr.mono (by omega) (by omega) (by omega)
   nn := gJ (by decide)
   ask := fun b w s e => by
    simp only [jZ, iH, ay, Tm.mk.injEq, List.cons.injEq, and_true, true_and] at e;exact absurd e.1 (by decide)
   ans := fun ak n o' c' e => by
    simp only [jZ, kA, bf, ay] at e;cases e }
theorem qL {e : Int} (h : cX e) : cY (tU e) := by
 have hl := xJ;have hi := cB (n := e) (by have := h.1; omega) (by have := h.2; omega);have hr := G.pack (d := 1) (tag := tT) (by decide) (Nat.le_refl _) (GL.cons (d9 (c := 61) (d := 1) hi (Nat.le_refl _)) GL.nil);exact
  {g := hr.mono (by omega) (by omega) (by omega)
   nn := gJ (by decide)
   ask := fun b w s e => by
    simp only [tU, iH, ay, Tm.mk.injEq, List.cons.injEq, and_true, true_and] at e;exact absurd e.1 (by decide)
   ans := fun ak n o' c' e => by
    simp only [tU, kA, bf, ay] at e;cases e }
theorem si {u body y p : Tm} {w : Nat} (hp : G 56 w 2000 p) (h : (bx u body y p).2 = 0) : G 53 (w + 100) 2001 (bx u body y p).1 := by
 unfold bx at h ⊢;split at h
 ·cases h
 ·rename_i l e;obtain ⟨e1, e2, _⟩ := eO e;rw [uB e2] at e1;split at h
  ·exact absurd h (by assumption)
  ·rename_i g1;rw [if_neg g1];split at h
   ·cases h
   ·rename_i g2;rw [if_neg g2];have g2 := Classical.not_not.1 g2;simp only;have hf : G 55 w 2000 (at_ l 1) := hp.kid (by rw [e1]; exact List.mem_cons_of_mem _ (List.mem_cons_of_mem _ (List.mem_cons_self ..)));rw [g2] at hf;unfold d8 bf at hf;have h1 : G 54 w 2000 (er (gg (aF (at_ l 0) u).1 y u (a7 y u) (at_ l 0) body 1) mg 60) := hf.kid (List.mem_cons_self ..);have h2 : G 53 w 2000 (gg (aF (at_ l 0) u).1 y u (a7 y u) (at_ l 0) body 1) := h1.kid (List.mem_cons_self ..);unfold gg nG at h2 ⊢;have h3 := h2.kid (d := 52) (List.mem_cons_self ..);have := gi;exact (G.num h3 (by decide) (by decide)).mono (by omega) (by omega) (by omega)
theorem BU {k : Kd} {ta : Ta} (h : TaG k ta) (hp : G 56 20000000 2000 ta.pd) (he : (aU ta).2.2 = 0) : G 53 40000500 4020 (aU ta).1 := by
 have hl := gi;unfold aU at he ⊢;split
 ·exact (G.num h.ak (by decide) (by decide)).mono (by omega) (by omega) (by omega)
 rename_i g1;rw [if_neg g1] at he;split
 ·rename_i g2;rw [if_pos g2] at he;exact (si hp he).mono (by omega) (by omega) (by omega)
 ·exact h.ukey.mono (by omega) (by omega) (by omega)
theorem wx {k : Kd} {ta : Ta} (h : (bJ k ta).2.2.2 = 0) : (bJ k ta).2.1 = (aU ta).1 /\ (aU ta).2.2 = 0 := by
 unfold bJ at h ⊢;split at h
 ·cases h
 rename_i g1;rw [if_neg g1];split at h
 ·cases h
 rename_i g2;rw [if_neg g2];split at h
 ·rename_i g3; exact absurd h g3
 rename_i g3;rw [if_neg g3];refine ⟨?_, Classical.not_not.1 g3⟩;split
 ·rfl
 split <;> rfl
end Go.Sl
namespace Go.Sl
open Go Go.Vc Go.Proofs Go.RowKit
theorem o5 : ∀ {l : List Tm}, (∀ u ∈ l, (aL u).depth = u.depth) -> Tm.depths (l.map aL) = Tm.depths l
 | [], _ => rfl
 | t :: l, h => by
  have h1 := o5 fun u hu => h u (List.mem_cons_of_mem _ hu)
  have h2 := h t (List.mem_cons_self ..);simp only [List.map_cons, Tm.depths];omega
theorem y8 : ∀ t : Tm, (aL t).depth = t.depth := by
 intro t
 induction t using Tm.indk with
 | h t ih =>
 rw [eU];obtain ⟨h1, h2, h3⟩ := dG t.kind t.name (t.kids.map aL);have hm := o5 ih;rw [fg, fg t];rcases h3 with h3 | ⟨x, y, h3, h4⟩
 ·rw [h3, hm]
 ·rw [h4, <- hm, h3];simp only [Tm.depths];omega
theorem EC : ∀ t : Tm, t.shp = true -> (aL t).shp = true := by
 intro t
 induction t using Tm.indk with
 | h t ih =>
 intro h;rw [eU];obtain ⟨h1, h2, h3⟩ := dG t.kind t.name (t.kids.map aL);rw [iD] at h ⊢;have hk : ∀ u ∈ t.kids.map aL, u.shp = true := fun u hu => by
  obtain ⟨v, hv, rfl⟩ := List.mem_map.1 hu;exact ih v hv (h.2 v hv)
 have hl : (t.kids.map aL).length = t.kids.length := List.length_map _;rw [h1, h2];rcases h3 with h3 | ⟨x, y, h3, h4⟩
 ·rw [h3, hl];exact ⟨h.1, hk⟩
 ·rw [h3] at hk hl;rw [h4];refine ⟨⟨h.1.1, h.1.2.1, ?_⟩, fun u hu => hk u ?_⟩
  ·have h5 := h.1.2.2;rw [<- hl] at h5;exact h5
  ·simp only [List.mem_cons, List.not_mem_nil, or_false] at hu ⊢;exact hu.symm
theorem Gv {t : Tm} (h : t.shp = true) (hd : t.depth <= 60) : gdT (aL t) := ⟨ky.2 ⟨EC t h, by rw [y8]; exact hd⟩, jQ t⟩
theorem wy {l : List Tm} {p : Tm} (hp : p ∈ l) (hg : cY p) : knT l p = true := nF.2 (.base ⟨p, hp, rfl⟩ (Gv hg.g.shp hg.g.dep))
theorem BV {l m : List Tm} {t : Tm} (h : ∀ u ∈ l, u ∈ m) (hk : knT l t = true) : knT m t = true :=
 nF.2 ((nF.1 hk).mono fun u hu => by
  obtain ⟨v, hv, e⟩ := hu;exact ⟨v, h v hv, e⟩)
end Go.Sl
