/- A calculus of verification conditions, part 12: append, calls. -/
import Derived.Test.YtcdbgkcijelopaaDoorVcb
import Derived.Laws.BytesString
set_option linter.unusedVariables false
namespace Go.Vc
open Go Go.RowKit

section
variable {C : Cx} {n : Nat} {F : Fm} {ok0 : Nat → Prop} {w0 : World} {ok : Nat → Prop} {β : Nat → Value} {s : S} {a : Act} {w : World} {own : Nat → Bool} {o : Oper} {k : U → Prop} {K : Act → World → Prop} {Q : Exit → Act → World → Prop}

/-- A list's elements, one by one. -/
theorem RPE_vals {sz : Nat} {A : Option Addr} : ∀ {L : List PV} {i : Nat}, RPE ok w sz L A i → ∃ vs, RPL ok w L vs ∧ (∀ v ∈ vs, v.cells.size = sz) ∧ ∀ ad, A = some ad → ∀ j u, (flat vs)[j]? = some u → w.cell? (ad.add (i * sz + j)) = some u
  | [], i, _ => ⟨[], trivial, (fun v hv => by cases hv), fun ad _ j u hj => by simp [flat] at hj⟩
  | x :: L, i, h => by
    obtain ⟨⟨ad, c, h1, h2, h3, h4, h5⟩, h6⟩ := h
    obtain ⟨vs, q1, q2, q3⟩ := RPE_vals h6
    refine ⟨c :: vs, ⟨h3, q1⟩, fun v hv => ?_, fun ad' he j u hj => ?_⟩
    · cases hv with
      | head => exact h4
      | tail _ hv => exact q2 v hv
    · rw [h1] at he
      cases he
      simp only [flat, List.flatMap_cons] at hj
      by_cases hlt : j < sz
      · rw [List.getElem?_append_left (by simp [h4]; exact hlt)] at hj
        exact h5 j u (by simpa using hj)
      · rw [List.getElem?_append_right (by simp [h4]; omega)] at hj
        have := q3 ad h1 (j - sz) u (by simpa [flat, h4] using hj)
        rwa [show (i + 1) * sz + (j - sz) = i * sz + j by rw [Nat.add_mul]; omega] at this
theorem flat_one {L : List PV} {vs : List Value} (h : RPL ok w L vs) : ∀ u ∈ flat vs, u.oneCell' = true := by
  intro u hu
  simp only [flat, List.mem_flatMap] at hu
  obtain ⟨v, hv, hu⟩ := hu
  obtain ⟨i, hi⟩ := List.getElem?_of_mem hv
  have hlt : i < L.length := by
    rw [← RPL_length h]
    exact (List.getElem?_eq_some_iff.1 hi).1
  obtain ⟨v', hv', hr⟩ := RPL_get h (List.getElem?_eq_getElem hlt)
  rw [hi] at hv'
  cases hv'
  exact (RP_one hr).1 u hu
theorem RRow_append {sz : Nat} {L M : List PV} {xs ys : List Value} (h : RRow ok w sz L xs) (h' : RRow ok w sz M ys) : RRow ok w sz (L ++ M) (xs ++ ys) := by
  refine ⟨by rw [List.length_append, List.length_append, h.1, h'.1, Nat.add_mul], fun i x hx => ?_⟩
  by_cases hi : i < L.length
  · rw [List.getElem?_append_left hi] at hx
    obtain ⟨c, h1, h2⟩ := h.2 i x hx
    refine ⟨c, h1, ?_⟩
    have hm : i * sz + sz ≤ xs.length := by
      rw [h.1, ← Nat.succ_mul]
      exact Nat.mul_le_mul_right _ hi
    rw [h2, List.drop_append_of_le_length (by omega), List.take_append_of_le_length (by rw [List.length_drop]; omega)]
  · rw [List.getElem?_append_right (by omega)] at hx
    obtain ⟨c, h1, h2⟩ := h'.2 _ x hx
    refine ⟨c, h1, ?_⟩
    have hm : xs.length ≤ i * sz := by
      rw [h.1]
      exact Nat.mul_le_mul_right _ (by omega)
    rw [h2, List.drop_append, List.drop_eq_nil_of_le hm, List.nil_append]
    congr 2
    rw [h.1, Nat.sub_mul]
theorem run_append_none {P : Program} {t ty e : TypeId} {i : TypeInfo} {base size m : Nat} {v : Value} {xs : List Value} (ht : P.underlying t = some (.slice e)) (hi : P.info? e = some i) (hown : w.ownsRow base e size v m xs) (cap : Nat) :
    (Builtin.append_ #[t, t] ty #[v, .slice none 0 cap]).run P w = .ok v w := by
  rcases hown.2 with ⟨rfl, rfl⟩ | ⟨g, cap, cur, rfl, _, _, hnc, _⟩
  · simp [Builtin.append_, run_underlying ht, sizeOf, typeInfo, hi, Builtin.lenOf, Builtin.firstCells]
  · simp [Builtin.append_, run_underlying ht, sizeOf, typeInfo, hi, Builtin.lenOf, Builtin.firstCells, hnc, storeCells]
/-- What append comes to. -/
theorem run_append (hC : CxOk C) {t : TypeId} {ti te : TI} (eT : C.T t = some ti) (eE : C.T ti.elem = some te) (hk : ti.k = 2) (hpos : 0 < te.sz) {base : Nat} {v : Value} {L M : List PV} {xs : List Value} {ty : TypeId} {y : Operand} {M' : SV}
    (hM : lstOf M' = some M) (hy : R ok β w M' (a.eval y)) (hall : allSz (te.agg, te.sz) M) (hrow : w.ownsRow base ti.elem te.sz v L.length xs) (hrr : RRow ok w te.sz L xs) (hb : (L.length + M.length) * te.bytes ≤ 140737488355328) (hby : 0 < te.bytes) (hbase : base ≤ w.heap.size) (hno : ∀ b, v.ownBlock = some b → ¬ ok b) :
    ∃ v' w' ys, (Builtin.append_ #[t, t] ty #[v, a.eval y]).run C.P w = .ok v' w' ∧ w'.ownsRow base ti.elem te.sz v' (L ++ M).length ys ∧ RRow ok w' te.sz (L ++ M) ys ∧ w.grownBy w' v.ownBlock ∧ (v'.ownBlock = v.ownBlock ∨ v'.ownBlock = some w.heap.size) := by
  obtain ⟨i, d, z, h1, h2, h3, h4, h5, h6, h7, h8, _⟩ := (hC.ty _ _ eE).out
  have ht := (hC.ty _ _ eT).slice hk
  have hz : z.cells.size = te.sz := h7
  have hview : ∃ A cap, a.eval y = .slice A M.length cap ∧ ∃ sz, RPE ok w sz M A 0 := by
    cases M' with
    | p x =>
      cases x with
      | lst L' =>
        simp only [lstOf, Option.some.injEq] at hM
        subst hM
        rw [R, RP] at hy
        obtain ⟨A, cap, sz, q1, _, _, q4⟩ := hy
        exact ⟨A, cap, q1, sz, q4⟩
      | nilS =>
        simp only [lstOf, Option.some.injEq] at hM
        subst hM
        rw [R, RP] at hy
        exact ⟨none, 0, hy, 0, trivial⟩
      | _ => simp [lstOf] at hM
    | _ => simp [lstOf] at hM
  obtain ⟨A, cap, e1, sz, hE⟩ := hview
  rw [e1]
  cases A with
  | none =>
    have hnil : M = [] := by
      cases M with
      | nil => rfl
      | cons m M =>
        obtain ⟨⟨ad, c, q, _⟩, _⟩ := hE
        cases q
    subst hnil
    refine ⟨v, w, xs, run_append_none ht h1 hrow cap, by simpa using hrow, by simpa using hrr, ⟨rfl, rfl, rfl, Nat.le_refl _, fun _ _ _ => rfl⟩, .inl rfl⟩
  | some ad =>
    obtain ⟨vs, q1, q2, q3⟩ := RPE_vals hE
    have hsizes := allSz_sizes hall q1
    have hlen := RPL_length q1
    have hfl := flat_length hsizes
    have hszeq : M.length = 0 ∨ sz = te.sz := by
      cases vs with
      | nil => left; simpa using hlen.symm
      | cons v0 vs => right; rw [← q2 v0 (List.mem_cons_self ..), hsizes v0 (List.mem_cons_self ..)]
    have hcell : ∀ j u, (flat vs)[j]? = some u → w.cell? (ad.add j) = some u := by
      intro j u hj
      have := q3 ad rfl j u hj
      simpa using this
    have hm : L.length + M.length ≤ maxLen := by
      simp only [maxLen]
      have : (L.length + M.length) * 1 ≤ (L.length + M.length) * te.bytes := Nat.mul_le_mul_left _ hby
      omega
    obtain ⟨v', w', g1, g2, g3, g4, g5⟩ := run_append_own_at (P := C.P) w base t ty ti.elem i z te.sz te.bytes ht h1 h5 h3 h4 hz hpos v L.length xs hrow ad M.length cap (flat vs) (by rw [hfl, hlen]) hcell (flat_one q1) hm hb hbase
    refine ⟨v', w', xs ++ flat vs, g1, by simpa using g2, ?_, g3, g5⟩
    have hst : Stay ok w w' := fun b hb' hlt => g3.block b hlt fun e => hno b e.symm hb'
    exact RRow_append (RRow_stay (fun _ h => h) hst hrr) (RRow_stay (fun _ h => h) hst (RRow_flat q1 hsizes))
theorem op_append (hC : CxOk C) {c : Call} (ho : o.op = .call c) (hb : c.callee = .builtin .append) (h : StO C n F ok0 w0 ok β s a w) (hd : ∀ d, o.dst = some d → d < n) (hvc : VC C own o s.ev s.η k)
    (hK : ∀ u a' w', k u → St C n F ok0 w0 (s.app o.dst u) a' w' → K a' w') : o.wp C.P a w K Q := by
  obtain ⟨callee, args, argTypes⟩ := c
  subst hb
  simp only [VC, ho] at hvc
  split at hvc
  · rename_i d x y t t' ed eA eTy
    rw [beq_ite] at hvc
    split at hvc
    · rename_i htt
      subst htt
      have hargs : args = #[x, y] := by
        apply Array.ext'
        simpa using eA
      have hty : argTypes = #[t, t] := by
        apply Array.ext'
        simpa using eTy
      subst hargs hty
      split at hvc
      · rename_i ti eT
        split at hvc
        · rename_i te M eE eM
          obtain ⟨hk, hpos, hby, hall, hvc⟩ := hvc
          have hrx := ev_R h x
          have hry := ev_R h y
          -- what is left when the append has been run: the state s1 without the row that was appended to
          have fin : ∀ (s1 : S) (L : List PV) (xs : List Value) (v : Value) (u : U) (q : Nat), StO C n F ok0 w0 ok β s1 a w → a.eval x = v → w.ownsRow 0 ti.elem te.sz v L.length xs → RRow ok w te.sz L xs → (L.length + M.length) * te.bytes ≤ 140737488355328 →
              (∀ b, v.ownBlock = some b → ¬ ok b ∧ may F w0 b ∧ ∀ κ, (s1.η κ).live = true → blockOf (β κ) ≠ some b) → s1.η q = .no → q < 2000 → k u →
              s.app (some d) u = cond (own d) ((s1.set q (.row ti.elem te.sz (L ++ M))).put d (.slc q)) (s1.put d (.p (.lst (L ++ M)))) → o.wp C.P a w K Q := by
            intro s1 L xs v u q h1 e1 hrow hrr hbytes hbl hno hq2 hu happ
            obtain ⟨v', w', ys, g1, g2, g3, g4, g5⟩ := run_append hC eT eE hk hpos (ty := o.type) eM hry hall hrow hrr hbytes hby (Nat.zero_le _) (fun b hb => (hbl b hb).1)
            have hrun : (execOp a.eval o).run C.P w = .ok (.value v') w' := by simp [execOp, ho, resolve, invoke, builtin, e1, g1]
            have hbel : Keep F w0 w' := h.below.grown g4 fun b hb => (hbl b hb).2.1
            have hkeep : ∀ b, b < w.heap.size → (ok b ∨ ∃ κ, (s1.η κ).live = true ∧ blockOf (β κ) = some b) → w'.heap[b]? = w.heap[b]? := by
              intro b hlt hb
              refine g4.block b hlt fun e => ?_
              rcases hb with hb | ⟨κ, hl, hb⟩
              · exact (hbl b e.symm).1 hb
              · exact (hbl b e.symm).2.2 κ hl hb
            have hnew : ∀ b, v'.ownBlock = some b → ¬ ok b ∧ (∀ κ, (s1.η κ).live = true → blockOf (β κ) ≠ some b) ∧ b < w'.heap.size ∧ may F w0 b := by
              intro b hb
              rcases g5 with g5 | g5
              · have := hbl b (g5 ▸ hb)
                exact ⟨this.1, this.2.2, (g2.lt b hb).2, this.2.1⟩
              · have : b = w.heap.size := by rw [g5] at hb; simpa using hb.symm
                subst this
                exact ⟨fun hc => by have := h.lt _ hc; omega, fun κ hl hbk => by have := OB_lt (h1.η κ) hl hbk; omega, (g2.lt _ hb).2, .inr h.below.size⟩
            refine wp_value hrun (hK u _ _ hu ?_)
            rw [ed, happ]
            cases ho' : own d with
            | true =>
              have h2 := h1.world hC (ok' := ok) hbel g4.size hkeep (fun _ h => h) (fun _ h => .inl h)
              exact ⟨ok, _, h2.addrow (hd d ed) hq2 hno hpos g2 g3 fun b hb => ⟨(hnew b hb).1, (hnew b hb).2.2.2, (hnew b hb).2.1⟩⟩
            | false =>
              have h2 := h1.world hC (ok' := fun b => ok b ∨ v'.ownBlock = some b) hbel g4.size hkeep (fun _ h => .inl h) (fun b hb => by
                rcases hb with hb | hb
                · exact .inl hb
                · exact .inr ⟨(hnew b hb).2.2.1, (hnew b hb).2.2.2, (hnew b hb).2.1⟩)
              exact ⟨_, _, h2.put (hd d ed) (row_lst g2 g3 (fun _ h => .inl h) fun b hb => .inr hb) (by intro κ hκ; cases hκ)⟩
          split at hvc
          · rename_i ex
            split at hvc
            · rename_i eη
              obtain ⟨hbytes, hvc⟩ := hvc
              rw [ex, R, RP] at hrx
              cases ho' : own d with
              | true =>
                rw [ho'] at hvc
                exact fin s [] [] _ _ d h hrx ⟨by simp, .inl ⟨rfl, rfl⟩⟩ ⟨by simp, fun i x hx => by simp at hx⟩ (by simpa using hbytes) (fun b hb => by simp [Value.ownBlock] at hb) eη (Nat.lt_of_lt_of_le (hd d ed) h.n2) hvc (by simp [S.app, ho'])
              | false =>
                rw [ho'] at hvc
                exact fin s [] [] _ _ d h hrx ⟨by simp, .inl ⟨rfl, rfl⟩⟩ ⟨by simp, fun i x hx => by simp at hx⟩ (by simpa using hbytes) (fun b hb => by simp [Value.ownBlock] at hb) eη (Nat.lt_of_lt_of_le (hd d ed) h.n2) hvc (by simp [S.app, ho'])
            · exact hvc.elim
          · rename_i κ ex
            split at hvc
            · rename_i e sz L eη
              obtain ⟨hκ2, rfl, rfl, hbytes, hvc⟩ := hvc
              have hκ2 : κ < 2000 := by simpa [Nat.blt_eq] using hκ2
              rw [ex, R] at hrx
              obtain ⟨hrx, _⟩ := hrx
              have hob := h.η κ
              rw [eη] at hob
              obtain ⟨_, ⟨xs, hrow, hrr⟩, hnok⟩ := hob
              have hmine : (s.η κ).mine = true := by rw [eη]; rfl
              have hno : (s.kill κ).η κ = .no := by
                show cond (Nat.beq κ κ) .no ((s.η κ).purge κ) = .no
                rw [beq_ite, if_pos rfl]
              have hbl : ∀ b, (β κ).ownBlock = some b → ¬ ok b ∧ may F w0 b ∧ ∀ κ', ((s.kill κ).η κ').live = true → blockOf (β κ') ≠ some b := by
                intro b hb
                refine ⟨(hnok b hb).1, (hnok b hb).2, fun κ' hl hb' => ?_⟩
                obtain ⟨hl, hne⟩ := kill_live.1 hl
                exact hne ((mine_block h hmine (ownBlock_blockOf hb)).2.2 κ' hl hb')
              cases ho' : own d with
              | true =>
                rw [ho'] at hvc
                exact fin (s.kill κ) L xs _ _ κ (h.kill κ) hrx hrow hrr hbytes hbl hno hκ2 hvc (by simp [S.app, ho'])
              | false =>
                rw [ho'] at hvc
                exact fin (s.kill κ) L xs _ _ κ (h.kill κ) hrx hrow hrr hbytes hbl hno hκ2 hvc (by simp [S.app, ho'])
            · exact hvc.elim
          · exact hvc.elim
        · exact hvc.elim
      · exact hvc.elim
    · exact hvc.elim
  · exact hvc.elim
theorem op_mv (hC : CxOk C) {x : Operand} (ho : o.op = .move x ∨ o.op = .assign x) (h : StO C n F ok0 w0 ok β s a w) (hd : ∀ d, o.dst = some d → d < n) (hvc : VC C own o s.ev s.η k)
    (hK : ∀ u a' w', k u → St C n F ok0 w0 (s.app o.dst u) a' w' → K a' w') : o.wp C.P a w K Q := by
  have hvc : mvVC C own o.dst o.type s.η (s.ev x) k := by
    rcases ho with ho | ho <;> (simp only [VC, ho] at hvc; exact hvc)
  unfold mvVC at hvc
  cases e : ownNil own o.dst (s.ev x) with
  | false =>
    rw [e] at hvc
    exact op_move ho h hd hvc hK
  | true =>
    rw [e] at hvc
    simp only [cond_true] at hvc
    split at hvc
    · rename_i d ti ed et
      split at hvc
      · rename_i te eη ete
        obtain ⟨hpos, hvc⟩ := hvc
        have hx : s.ev x = .p .nilS := by
          rw [ed] at e
          unfold ownNil at e
          split at e
          · assumption
          · cases e
        have hr := ev_R h x
        rw [hx, R, RP] at hr
        have hrun : (execOp a.eval o).run C.P w = .ok (.value (.slice none 0 0)) w := by rcases ho with ho | ho <;> simp [execOp, ho, hr]
        refine wp_value hrun (hK _ _ _ hvc ?_)
        rw [ed]
        have hrow : w.ownsRow 0 ti.elem te.sz (.slice none 0 0) ([] : List PV).length [] := ⟨by simp, .inl ⟨rfl, rfl⟩⟩
        exact ⟨ok, _, h.addrow (hd d ed) (Nat.lt_of_lt_of_le (hd d ed) h.n2) eη hpos hrow ⟨by simp, fun i x hx => by simp at hx⟩ fun b hb => by simp [Value.ownBlock] at hb⟩
      · exact hvc.elim
    · exact hvc.elim
theorem bytes_vals : ∀ {l : List UInt8} {vs : List Value}, RPL ok w (bytesL l) vs → vs = l.map fun c => .int .u8 c.toNat
  | [], [], h => rfl
  | [], _ :: _, h => h.elim
  | _ :: _, [], h => h.elim
  | c :: l, v :: vs, h => by
    obtain ⟨h1, h2⟩ := h
    rw [RP] at h1
    rw [List.map_cons, h1, bytes_vals h2]
theorem push_bytes : ∀ (l : List UInt8) (b : ByteArray), (l.map fun c => (c.toNat : Int)).foldl (fun (r : ByteArray) n => r.push (UInt8.ofNat n.toNat)) b = ⟨b.data ++ l.toArray⟩
  | [], b => by simp
  | c :: l, b => by
    rw [List.map_cons, List.foldl_cons, push_bytes l]
    simp [ByteArray.push]
theorem flat_ones : ∀ {l : List UInt8}, flat (l.map fun c => Value.int .u8 c.toNat) = l.map fun c => Value.int .u8 c.toNat
  | [] => rfl
  | c :: l => by
    show (Value.int .u8 c.toNat).cells.toList ++ flat (l.map _) = _
    rw [flat_ones]
    simp [Value.cells]
theorem op_convert (hC : CxOk C) {t t' : TypeId} {x : Operand} (ho : o.op = .convert t t' x) (h : StO C n F ok0 w0 ok β s a w) (hd : ∀ d, o.dst = some d → d < n) (hvc : VC C own o s.ev s.η k)
    (hK : ∀ u a' w', k u → St C n F ok0 w0 (s.app o.dst u) a' w' → K a' w') : o.wp C.P a w K Q := by
  simp only [VC, ho] at hvc
  split at hvc
  · rename_i ti ti' et et'
    obtain ⟨d1, hd1⟩ := (hC.ty _ _ et).und
    split at hvc
    · rename_i j m ex
      split at hvc
      · rename_i j' z0 ez
        obtain ⟨hk, r, rfl, hvc⟩ := hvc
        obtain ⟨j2, hu, hz⟩ := (hC.ty _ _ et').int hk
        rw [ez] at hz
        simp only [PV.int.injEq] at hz
        obtain ⟨rfl, _⟩ := hz
        have hx := ev_int h ex
        refine wp_read h hd hK (v := .int j' (j'.wrap m)) ?_ hvc (by rw [R, RP]) (by intro κ hκ; cases hκ)
        simp [execOp, ho, hx, convert, run_underlying hd1, run_underlying hu, Conv.intToInt]
      · exact hvc.elim
    · rename_i L ex
      obtain ⟨hk, hk', hu8, l, rfl, hvc⟩ := hvc
      have hsl := (hC.ty _ _ et).slice hk
      have hst := (hC.ty _ _ et').string hk'
      have hel : C.P.underlying ti.elem = some (.int .u8) := by
        unfold isU8 at hu8
        split at hu8
        · rename_i te ete
          split at hu8
          · rename_i z0 ez
            obtain ⟨j2, hu, hz⟩ := (hC.ty _ _ ete).int (Nat.eq_of_beq_eq_true hu8)
            rw [ez] at hz
            simp only [PV.int.injEq] at hz
            obtain ⟨rfl, _⟩ := hz
            exact hu
          · cases hu8
        · cases hu8
      have hr := ev_R h x
      rw [ex, R, RP] at hr
      obtain ⟨A, cap, sz, h1, h2, h3, h4⟩ := hr
      have hrun : (Conv.bytesToString (a.eval x)).run C.P w = .ok (.string ⟨l.toArray⟩) w := by
        rw [h1]
        cases A with
        | none =>
          have hl : l = [] := by
            cases l with
            | nil => rfl
            | cons c l =>
              obtain ⟨⟨ad, c, h5, _⟩, _⟩ := h4
              cases h5
          subst hl
          rfl
        | some ad =>
          obtain ⟨vs, q1, q2, q3⟩ := RPE_vals h4
          have hvs := bytes_vals q1
          have hfl : flat vs = l.map fun c => Value.int .u8 c.toNat := by rw [hvs]; exact flat_ones
          have hcell : ∀ j u, (flat vs)[j]? = some u → w.cell? (ad.add j) = some u := by
            intro j u hj
            simpa using q3 ad rfl j u hj
          have hlen : (flat vs).length = (bytesL l).length := by rw [hfl]; simp [bytesL]
          have hload := run_loadCells_list (P := C.P) w ad (flat vs) hcell
          rw [hlen] at hload
          have := run_bytesToString (P := C.P) w ad (bytesL l).length cap (l.map fun c => (c.toNat : Int)) (by
            rw [hload, hfl, List.map_map]
            rfl)
          rw [this, push_bytes]
          simp
      refine wp_read h hd hK (v := .string ⟨l.toArray⟩) ?_ hvc (by rw [R, RP]) (by intro κ hκ; cases hκ)
      have hconv : (convert t t' (a.eval x)).run C.P w = .ok (.string ⟨l.toArray⟩) w := by
        rw [h1] at hrun ⊢
        cases A <;> simp [convert, run_underlying hsl, run_underlying hst, run_underlying hel, hrun]
      simp [execOp, ho, hconv]
    · exact hvc.elim
  · exact hvc.elim
end
end Go.Vc
