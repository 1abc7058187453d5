/- Contracts of the document's answer for terms: numbers, texts. -/
/- short -/
import Derived.Test.YtpeabfflebgamaaDoorUa
set_option linter.unusedVariables false
set_option linter.unusedSimpArgs false
namespace Go.Sl
open Go Go.Vc Go.Proofs Go.RowKit Go.Lib

theorem number07_ok (b : Bool) : ∀ (k n : Nat), n ≤ k → n ≤ 9223372036854775807 → K b 87 [iv n] (.pv (.str (decDigits n)))
  | k, n, hk, hn => by
    by_cases h10 : n < 10
    · have e : decDigits n = [UInt8.ofNat (48 + n)] := decDigits_one h10
      rw [e]
      refine PC_of_vc (cx_ok b) (mixed b) {} Tryd.func87 (by kernel_rfl) rfl rfl (by kernel_rfl) ?_
      repeat (conv => whnf); first | refine IndepAnd (by kernel_rfl) ?_ | refine TreeAnd (by kernel_rfl) ?_ | refine ⟨rfl, ?_⟩ | refine ⟨by decide, ?_⟩ | refine ⟨trivial, ?_⟩ | refine ⟨⟨rfl, trivial⟩, ?_⟩ | refine ⟨Nat.le_of_ble_eq_true rfl, ?_⟩ | refine ⟨⟨_, rfl, rfl⟩, ?_⟩ | refine ⟨⟨rfl, rfl, trivial⟩, ?_⟩ | refine ⟨⟨rfl, rfl, rfl, trivial⟩, ?_⟩ | refine ⟨⟨rfl, rfl, rfl, rfl, trivial⟩, ?_⟩ | refine ⟨⟨rfl, rfl, rfl, rfl, rfl, trivial⟩, ?_⟩
      conv => whnf
      rw [show decide ((n : Int) < 10) = true from decide_eq_true (by omega)]
      repeat (conv => whnf); first | refine IndepAnd (by kernel_rfl) ?_ | refine TreeAnd (by kernel_rfl) ?_ | refine ⟨rfl, ?_⟩ | refine ⟨by decide, ?_⟩ | refine ⟨trivial, ?_⟩ | refine ⟨⟨rfl, trivial⟩, ?_⟩ | refine ⟨Nat.le_of_ble_eq_true rfl, ?_⟩ | refine ⟨⟨_, rfl, rfl⟩, ?_⟩ | refine ⟨⟨rfl, rfl, trivial⟩, ?_⟩ | refine ⟨⟨rfl, rfl, rfl, trivial⟩, ?_⟩ | refine ⟨⟨rfl, rfl, rfl, rfl, trivial⟩, ?_⟩ | refine ⟨⟨rfl, rfl, rfl, rfl, rfl, trivial⟩, ?_⟩
      conv => whnf
      refine ⟨_, wrapN (n := 48 + n) rfl (by omega), ?_⟩
      repeat (conv => whnf); first | refine IndepAnd (by kernel_rfl) ?_ | refine TreeAnd (by kernel_rfl) ?_ | refine ⟨rfl, ?_⟩ | refine ⟨by decide, ?_⟩ | refine ⟨trivial, ?_⟩ | refine ⟨⟨rfl, trivial⟩, ?_⟩ | refine ⟨Nat.le_of_ble_eq_true rfl, ?_⟩ | refine ⟨⟨_, rfl, rfl⟩, ?_⟩ | refine ⟨⟨rfl, rfl, trivial⟩, ?_⟩ | refine ⟨⟨rfl, rfl, rfl, trivial⟩, ?_⟩ | refine ⟨⟨rfl, rfl, rfl, rfl, trivial⟩, ?_⟩ | refine ⟨⟨rfl, rfl, rfl, rfl, rfl, trivial⟩, ?_⟩
      conv => whnf
      refine ⟨_, wrap8 (48 + n), ?_⟩
      repeat (conv => whnf); first | refine IndepAnd (by kernel_rfl) ?_ | refine TreeAnd (by kernel_rfl) ?_ | refine ⟨rfl, ?_⟩ | refine ⟨by decide, ?_⟩ | refine ⟨trivial, ?_⟩ | refine ⟨⟨rfl, trivial⟩, ?_⟩ | refine ⟨Nat.le_of_ble_eq_true rfl, ?_⟩ | refine ⟨⟨_, rfl, rfl⟩, ?_⟩ | refine ⟨⟨rfl, rfl, trivial⟩, ?_⟩ | refine ⟨⟨rfl, rfl, rfl, trivial⟩, ?_⟩ | refine ⟨⟨rfl, rfl, rfl, rfl, trivial⟩, ?_⟩ | refine ⟨⟨rfl, rfl, rfl, rfl, rfl, trivial⟩, ?_⟩
      conv => whnf
      refine ⟨[UInt8.ofNat (48 + n)], rfl, ?_⟩
      repeat (conv => whnf); first | refine IndepAnd (by kernel_rfl) ?_ | refine TreeAnd (by kernel_rfl) ?_ | refine ⟨rfl, ?_⟩ | refine ⟨by decide, ?_⟩ | refine ⟨trivial, ?_⟩ | refine ⟨⟨rfl, trivial⟩, ?_⟩ | refine ⟨Nat.le_of_ble_eq_true rfl, ?_⟩ | refine ⟨⟨_, rfl, rfl⟩, ?_⟩ | refine ⟨⟨rfl, rfl, trivial⟩, ?_⟩ | refine ⟨⟨rfl, rfl, rfl, trivial⟩, ?_⟩ | refine ⟨⟨rfl, rfl, rfl, rfl, trivial⟩, ?_⟩ | refine ⟨⟨rfl, rfl, rfl, rfl, rfl, trivial⟩, ?_⟩
      conv => whnf
      exact LEP.refl _
    · cases k with
      | zero => omega
      | succ k =>
        have ih := number07_ok b k (n / 10) (by omega) (by omega)
        have e : decDigits n = decDigits (n / 10) ++ [UInt8.ofNat (48 + n % 10)] := decDigits_step (by omega)
        have hl := decDigits_len (n / 10) (by omega)
        rw [e]
        refine PC_of_vc (cx_ok b) (mixed b) {} Tryd.func87 (by kernel_rfl) rfl rfl (by kernel_rfl) ?_
        repeat (conv => whnf); first | refine IndepAnd (by kernel_rfl) ?_ | refine TreeAnd (by kernel_rfl) ?_ | refine ⟨rfl, ?_⟩ | refine ⟨by decide, ?_⟩ | refine ⟨trivial, ?_⟩ | refine ⟨⟨rfl, trivial⟩, ?_⟩ | refine ⟨Nat.le_of_ble_eq_true rfl, ?_⟩ | refine ⟨⟨_, rfl, rfl⟩, ?_⟩ | refine ⟨⟨rfl, rfl, trivial⟩, ?_⟩ | refine ⟨⟨rfl, rfl, rfl, trivial⟩, ?_⟩ | refine ⟨⟨rfl, rfl, rfl, rfl, trivial⟩, ?_⟩ | refine ⟨⟨rfl, rfl, rfl, rfl, rfl, trivial⟩, ?_⟩
        conv => whnf
        rw [show decide ((n : Int) < 10) = false from decide_eq_false (by omega)]
        repeat (conv => whnf); first | refine IndepAnd (by kernel_rfl) ?_ | refine TreeAnd (by kernel_rfl) ?_ | refine ⟨rfl, ?_⟩ | refine ⟨by decide, ?_⟩ | refine ⟨trivial, ?_⟩ | refine ⟨⟨rfl, trivial⟩, ?_⟩ | refine ⟨Nat.le_of_ble_eq_true rfl, ?_⟩ | refine ⟨⟨_, rfl, rfl⟩, ?_⟩ | refine ⟨⟨rfl, rfl, trivial⟩, ?_⟩ | refine ⟨⟨rfl, rfl, rfl, trivial⟩, ?_⟩ | refine ⟨⟨rfl, rfl, rfl, rfl, trivial⟩, ?_⟩ | refine ⟨⟨rfl, rfl, rfl, rfl, rfl, trivial⟩, ?_⟩
        conv => whnf
        refine ⟨_, (tdiv10 n ▸ wrapN (n := n / 10) rfl (by omega)), ?_⟩
        repeat (conv => whnf); first | refine IndepAnd (by kernel_rfl) ?_ | refine TreeAnd (by kernel_rfl) ?_ | refine ⟨rfl, ?_⟩ | refine ⟨by decide, ?_⟩ | refine ⟨trivial, ?_⟩ | refine ⟨⟨rfl, trivial⟩, ?_⟩ | refine ⟨Nat.le_of_ble_eq_true rfl, ?_⟩ | refine ⟨⟨_, rfl, rfl⟩, ?_⟩ | refine ⟨⟨rfl, rfl, trivial⟩, ?_⟩ | refine ⟨⟨rfl, rfl, rfl, trivial⟩, ?_⟩ | refine ⟨⟨rfl, rfl, rfl, rfl, trivial⟩, ?_⟩ | refine ⟨⟨rfl, rfl, rfl, rfl, rfl, trivial⟩, ?_⟩
        conv => whnf
        refine ⟨_, CallVC.pr ih rfl rfl, ?_⟩
        repeat (conv => whnf); first | refine IndepAnd (by kernel_rfl) ?_ | refine TreeAnd (by kernel_rfl) ?_ | refine ⟨rfl, ?_⟩ | refine ⟨by decide, ?_⟩ | refine ⟨trivial, ?_⟩ | refine ⟨⟨rfl, trivial⟩, ?_⟩ | refine ⟨Nat.le_of_ble_eq_true rfl, ?_⟩ | refine ⟨⟨_, rfl, rfl⟩, ?_⟩ | refine ⟨⟨rfl, rfl, trivial⟩, ?_⟩ | refine ⟨⟨rfl, rfl, rfl, trivial⟩, ?_⟩ | refine ⟨⟨rfl, rfl, rfl, rfl, trivial⟩, ?_⟩ | refine ⟨⟨rfl, rfl, rfl, rfl, rfl, trivial⟩, ?_⟩
        conv => whnf
        refine ⟨_, tmod10 n, ?_⟩
        repeat (conv => whnf); first | refine IndepAnd (by kernel_rfl) ?_ | refine TreeAnd (by kernel_rfl) ?_ | refine ⟨rfl, ?_⟩ | refine ⟨by decide, ?_⟩ | refine ⟨trivial, ?_⟩ | refine ⟨⟨rfl, trivial⟩, ?_⟩ | refine ⟨Nat.le_of_ble_eq_true rfl, ?_⟩ | refine ⟨⟨_, rfl, rfl⟩, ?_⟩ | refine ⟨⟨rfl, rfl, trivial⟩, ?_⟩ | refine ⟨⟨rfl, rfl, rfl, trivial⟩, ?_⟩ | refine ⟨⟨rfl, rfl, rfl, rfl, trivial⟩, ?_⟩ | refine ⟨⟨rfl, rfl, rfl, rfl, rfl, trivial⟩, ?_⟩
        conv => whnf
        refine ⟨_, wrapN (n := 48 + n % 10) rfl (by omega), ?_⟩
        repeat (conv => whnf); first | refine IndepAnd (by kernel_rfl) ?_ | refine TreeAnd (by kernel_rfl) ?_ | refine ⟨rfl, ?_⟩ | refine ⟨by decide, ?_⟩ | refine ⟨trivial, ?_⟩ | refine ⟨⟨rfl, trivial⟩, ?_⟩ | refine ⟨Nat.le_of_ble_eq_true rfl, ?_⟩ | refine ⟨⟨_, rfl, rfl⟩, ?_⟩ | refine ⟨⟨rfl, rfl, trivial⟩, ?_⟩ | refine ⟨⟨rfl, rfl, rfl, trivial⟩, ?_⟩ | refine ⟨⟨rfl, rfl, rfl, rfl, trivial⟩, ?_⟩ | refine ⟨⟨rfl, rfl, rfl, rfl, rfl, trivial⟩, ?_⟩
        conv => whnf
        refine ⟨_, wrap8 (48 + n % 10), ?_⟩
        repeat (conv => whnf); first | refine IndepAnd (by kernel_rfl) ?_ | refine TreeAnd (by kernel_rfl) ?_ | refine ⟨rfl, ?_⟩ | refine ⟨by decide, ?_⟩ | refine ⟨trivial, ?_⟩ | refine ⟨⟨rfl, trivial⟩, ?_⟩ | refine ⟨Nat.le_of_ble_eq_true rfl, ?_⟩ | refine ⟨⟨_, rfl, rfl⟩, ?_⟩ | refine ⟨⟨rfl, rfl, trivial⟩, ?_⟩ | refine ⟨⟨rfl, rfl, rfl, trivial⟩, ?_⟩ | refine ⟨⟨rfl, rfl, rfl, rfl, trivial⟩, ?_⟩ | refine ⟨⟨rfl, rfl, rfl, rfl, rfl, trivial⟩, ?_⟩
        conv => whnf
        refine ⟨[UInt8.ofNat (48 + n % 10)], rfl, ?_⟩
        repeat (conv => whnf); first | refine IndepAnd (by kernel_rfl) ?_ | refine TreeAnd (by kernel_rfl) ?_ | refine ⟨rfl, ?_⟩ | refine ⟨by decide, ?_⟩ | refine ⟨trivial, ?_⟩ | refine ⟨⟨rfl, trivial⟩, ?_⟩ | refine ⟨Nat.le_of_ble_eq_true rfl, ?_⟩ | refine ⟨⟨_, rfl, rfl⟩, ?_⟩ | refine ⟨⟨rfl, rfl, trivial⟩, ?_⟩ | refine ⟨⟨rfl, rfl, rfl, trivial⟩, ?_⟩ | refine ⟨⟨rfl, rfl, rfl, rfl, trivial⟩, ?_⟩ | refine ⟨⟨rfl, rfl, rfl, rfl, rfl, trivial⟩, ?_⟩
        conv => whnf
        refine ⟨by show (decDigits (n / 10)).length + 1 ≤ _; omega, ?_⟩
        repeat (conv => whnf); first | refine IndepAnd (by kernel_rfl) ?_ | refine TreeAnd (by kernel_rfl) ?_ | refine ⟨rfl, ?_⟩ | refine ⟨by decide, ?_⟩ | refine ⟨trivial, ?_⟩ | refine ⟨⟨rfl, trivial⟩, ?_⟩ | refine ⟨Nat.le_of_ble_eq_true rfl, ?_⟩ | refine ⟨⟨_, rfl, rfl⟩, ?_⟩ | refine ⟨⟨rfl, rfl, trivial⟩, ?_⟩ | refine ⟨⟨rfl, rfl, rfl, trivial⟩, ?_⟩ | refine ⟨⟨rfl, rfl, rfl, rfl, trivial⟩, ?_⟩ | refine ⟨⟨rfl, rfl, rfl, rfl, rfl, trivial⟩, ?_⟩
        conv => whnf
        exact LEP.refl _
theorem letter_get {k : Int} (h : Tm.known k = true) : ∃ n : Nat, k - 1 = n ∧ n < 10 ∧ [PV.str [100], .str [97], .str [112], .str [101], .str [109], .str [104], .str [107], .str [117], .str [115], .str [120]][n]? = some (.str [Tm.letter k]) := by
  simp only [Tm.known, Bool.and_eq_true, decide_eq_true_eq] at h
  have : k = 1 ∨ k = 2 ∨ k = 3 ∨ k = 4 ∨ k = 5 ∨ k = 6 ∨ k = 7 ∨ k = 8 ∨ k = 9 ∨ k = 10 := by omega
  rcases this with rfl | rfl | rfl | rfl | rfl | rfl | rfl | rfl | rfl | rfl
  · exact ⟨0, rfl, by decide, rfl⟩
  · exact ⟨1, rfl, by decide, rfl⟩
  · exact ⟨2, rfl, by decide, rfl⟩
  · exact ⟨3, rfl, by decide, rfl⟩
  · exact ⟨4, rfl, by decide, rfl⟩
  · exact ⟨5, rfl, by decide, rfl⟩
  · exact ⟨6, rfl, by decide, rfl⟩
  · exact ⟨7, rfl, by decide, rfl⟩
  · exact ⟨8, rfl, by decide, rfl⟩
  · exact ⟨9, rfl, by decide, rfl⟩
theorem texts_take {l : List Tm} {i : Nat} (h : i < l.length) : Tm.texts (l.take (i + 1)) = Tm.texts (l.take i) ++ ((if 0 < i then [44] else []) ++ l[i].text) := by
  have key : ∀ (l : List Tm) (i : Nat) (h : i < l.length), Tm.texts' (l.take (i + 1)) = Tm.texts' (l.take i) ++ (44 :: l[i].text) := by
    intro l
    induction l with
    | nil => intro i h; simp at h
    | cons t l ih =>
      intro i h
      cases i with
      | zero => simp [Tm.texts']
      | succ i =>
        have := ih i (by simpa using h)
        simp only [List.take_succ_cons, Tm.texts', List.getElem_cons_succ, List.cons_append, List.append_assoc]
        rw [this]
  cases l with
  | nil => simp at h
  | cons t l =>
    cases i with
    | zero => simp [Tm.texts, Tm.texts']
    | succ i =>
      have := key l i (by simpa using h)
      simp only [List.take_succ_cons, Tm.texts, List.getElem_cons_succ, List.append_assoc]
      rw [this, if_pos (by omega)]
      rfl
theorem texts_take_len (l : List Tm) (i : Nat) : (Tm.texts (l.take i)).length ≤ (Tm.texts l).length := by
  induction l generalizing i with
  | nil => simp
  | cons t l ih =>
    have key : ∀ (l : List Tm) (i : Nat), (Tm.texts' (l.take i)).length ≤ (Tm.texts' l).length := by
      intro l
      induction l with
      | nil => intro i; simp
      | cons t l ih =>
        intro i
        cases i with
        | zero => simp [Tm.texts']
        | succ i => have := ih i; simp only [List.take_succ_cons, Tm.texts', List.length_cons, List.length_append]; omega
    cases i with
    | zero => simp [Tm.texts]
    | succ i => have := key l i; simp only [List.take_succ_cons, Tm.texts, List.length_append]; omega
theorem text07_ok (b : Bool) : ∀ t, Fit t → t.shp = true → t.text.length ≤ 1099511627776 → K b 74 [tv t] (.pv (.str t.text)) := by
  intro t
  induction t using Tm.indk with
  | h t ih =>
  intro hf hs hb
  obtain ⟨hk, hks⟩ := known_of_shp hs
  have hlen := hf.len
  have hnl : (Tm.nameText t.name).length ≤ 1099511627776 := by rw [text_mk] at hb; simp at hb; omega
  obtain ⟨ix, hix, hix2, hix3⟩ := letter_get hk
  refine PC_of_vc (cx_ok b) (mixed b) {} Tryd.func74 (by kernel_rfl) rfl rfl (by kernel_rfl) ?_
  repeat (conv => whnf); first | refine IndepAnd (by kernel_rfl) ?_ | refine ⟨rfl, ?_⟩ | refine ⟨by decide, ?_⟩ | refine ⟨trivial, ?_⟩ | refine ⟨⟨_, rfl, rfl⟩, ?_⟩ | refine ⟨⟨rfl, trivial⟩, ?_⟩ | refine ⟨⟨rfl, rfl, trivial⟩, ?_⟩
  conv => whnf
  refine ⟨by repeat (first | exact trivial | refine ⟨rfl, ?_⟩), ?_⟩
  repeat (conv => whnf); first | refine IndepAnd (by kernel_rfl) ?_ | refine ⟨rfl, ?_⟩ | refine ⟨by decide, ?_⟩ | refine ⟨trivial, ?_⟩ | refine ⟨⟨_, rfl, rfl⟩, ?_⟩ | refine ⟨⟨rfl, trivial⟩, ?_⟩ | refine ⟨⟨rfl, rfl, trivial⟩, ?_⟩
  conv => whnf
  refine ⟨_, wrapN (n := ix) hix (by omega), ?_⟩
  repeat (conv => whnf); first | refine IndepAnd (by kernel_rfl) ?_ | refine ⟨rfl, ?_⟩ | refine ⟨by decide, ?_⟩ | refine ⟨trivial, ?_⟩ | refine ⟨⟨_, rfl, rfl⟩, ?_⟩ | refine ⟨⟨rfl, trivial⟩, ?_⟩ | refine ⟨⟨rfl, rfl, trivial⟩, ?_⟩
  conv => whnf
  refine ⟨Int.natCast_nonneg _, .str [Tm.letter t.kind], hix3, rfl, rfl, ?_⟩
  repeat (conv => whnf); first | refine IndepAnd (by kernel_rfl) ?_ | refine ⟨rfl, ?_⟩ | refine ⟨by decide, ?_⟩ | refine ⟨trivial, ?_⟩ | refine ⟨⟨_, rfl, rfl⟩, ?_⟩ | refine ⟨⟨rfl, trivial⟩, ?_⟩ | refine ⟨⟨rfl, rfl, trivial⟩, ?_⟩
  conv => whnf
  refine @bool_rec _ _ _ ?_ ?_ <;> intro h1
  · have h1 : t.name ≠ [] := of_decide_eq_true h1
    have en : Tm.nameText t.name = decDigits t.name.length ++ 58 :: t.name := by rw [Tm.nameText, if_neg h1]
    have hn2 := hnl
    rw [en] at hn2
    simp only [List.length_append, List.length_cons] at hn2
    repeat (conv => whnf); first | refine IndepAnd (by kernel_rfl) ?_ | refine ⟨rfl, ?_⟩ | refine ⟨by decide, ?_⟩ | refine ⟨trivial, ?_⟩ | refine ⟨⟨_, rfl, rfl⟩, ?_⟩ | refine ⟨⟨rfl, trivial⟩, ?_⟩ | refine ⟨⟨rfl, rfl, trivial⟩, ?_⟩
    conv => whnf
    refine ⟨_, CallVC.pr (number07_ok b t.name.length t.name.length (Nat.le_refl _) (by omega)) rfl rfl, ?_⟩
    repeat (conv => whnf); first | refine IndepAnd (by kernel_rfl) ?_ | refine ⟨rfl, ?_⟩ | refine ⟨by decide, ?_⟩ | refine ⟨trivial, ?_⟩ | refine ⟨⟨_, rfl, rfl⟩, ?_⟩ | refine ⟨⟨rfl, trivial⟩, ?_⟩ | refine ⟨⟨rfl, rfl, trivial⟩, ?_⟩
    conv => whnf
    refine ⟨by show 1 + (decDigits t.name.length).length ≤ _; omega, ?_⟩
    repeat (conv => whnf); first | refine IndepAnd (by kernel_rfl) ?_ | refine ⟨rfl, ?_⟩ | refine ⟨by decide, ?_⟩ | refine ⟨trivial, ?_⟩ | refine ⟨⟨_, rfl, rfl⟩, ?_⟩ | refine ⟨⟨rfl, trivial⟩, ?_⟩ | refine ⟨⟨rfl, rfl, trivial⟩, ?_⟩
    conv => whnf
    refine ⟨by show ([Tm.letter t.kind] ++ decDigits t.name.length).length + 1 ≤ _; simp only [List.length_append, List.length_cons, List.length_nil]; omega, ?_⟩
    repeat (conv => whnf); first | refine IndepAnd (by kernel_rfl) ?_ | refine ⟨rfl, ?_⟩ | refine ⟨by decide, ?_⟩ | refine ⟨trivial, ?_⟩ | refine ⟨⟨_, rfl, rfl⟩, ?_⟩ | refine ⟨⟨rfl, trivial⟩, ?_⟩ | refine ⟨⟨rfl, rfl, trivial⟩, ?_⟩
    conv => whnf
    refine ⟨by show ([Tm.letter t.kind] ++ decDigits t.name.length ++ [58]).length + t.name.length ≤ _; simp only [List.length_append, List.length_cons, List.length_nil]; omega, ?_⟩
    repeat (conv => whnf); first | refine IndepAnd (by kernel_rfl) ?_ | refine ⟨rfl, ?_⟩ | refine ⟨by decide, ?_⟩ | refine ⟨trivial, ?_⟩ | refine ⟨⟨_, rfl, rfl⟩, ?_⟩ | refine ⟨⟨rfl, trivial⟩, ?_⟩ | refine ⟨⟨rfl, rfl, trivial⟩, ?_⟩
    conv => whnf
    obtain ⟨s0, es0⟩ : ∃ s0, s0 = [Tm.letter t.kind] ++ decDigits t.name.length ++ [58] ++ t.name := ⟨_, rfl⟩
    have es : s0 = Tm.letter t.kind :: Tm.nameText t.name := by rw [es0, en]; simp
    first | rw [← es0] | rw [show [Tm.letter t.kind] ++ decDigits t.name.length ++ { data := #[58] }.data.toList ++ t.name = s0 from es0.symm]
    refine @bool_rec _ _ _ ?_ ?_ <;> intro h2
    · have h2 : t.kind ≤ 2 := of_decide_eq_true h2
      repeat (conv => whnf); first | refine IndepAnd (by kernel_rfl) ?_ | refine ⟨rfl, ?_⟩ | refine ⟨by decide, ?_⟩ | refine ⟨trivial, ?_⟩ | refine ⟨⟨_, rfl, rfl⟩, ?_⟩ | refine ⟨⟨rfl, trivial⟩, ?_⟩ | refine ⟨⟨rfl, rfl, trivial⟩, ?_⟩
      conv => whnf
      refine LEP.of (congrArg PV.str ?_)
      have hk0 : t.kids = [] := by
        have h3 := ((shp_mk t).1 hs).1
        simp only [Tm.known, Bool.and_eq_true, decide_eq_true_eq] at h3
        have h4 : t.kind = 1 ∨ t.kind = 2 := by omega
        have h5 := h3.2.2
        rcases h4 with h4 | h4 <;> rw [h4] at h5 <;> simp [Tm.arity] at h5 <;> exact h5
      have e4 : t.text = s0 := by rw [es, text_mk, if_pos ⟨hk0, by omega⟩, List.append_nil]
      exact e4.symm
    · have h2 : ¬ t.kind ≤ 2 := of_decide_eq_false h2
      have hns : ¬ (t.kids = [] ∧ t.kind ≠ 3) := by
        rintro ⟨h3, h4⟩
        have h5 := ((shp_mk t).1 hs).1.2.2
        rw [h3] at h5
        have h6 := ((shp_mk t).1 hs).1.1
        simp only [Tm.known, Bool.and_eq_true, decide_eq_true_eq] at h6
        have h7 : t.kind = 4 ∨ t.kind = 5 ∨ t.kind = 6 ∨ t.kind = 7 ∨ t.kind = 8 ∨ t.kind = 9 ∨ t.kind = 10 := by omega
        rcases h7 with h7 | h7 | h7 | h7 | h7 | h7 | h7 <;> rw [h7] at h5 <;> simp [Tm.arity] at h5
      have etx : t.text = s0 ++ [40] ++ Tm.texts t.kids ++ [41] := by rw [es, text_mk, if_neg hns]; simp
      have hbb := hb
      rw [etx] at hbb
      simp only [List.length_append, List.length_cons, List.length_nil] at hbb
      have htl := texts_take_len t.kids
      have hkl := (texts_len t.kids).2
      repeat (conv => whnf); first | refine IndepAnd (by kernel_rfl) ?_ | refine ⟨rfl, ?_⟩ | refine ⟨by decide, ?_⟩ | refine ⟨trivial, ?_⟩ | refine ⟨⟨_, rfl, rfl⟩, ?_⟩ | refine ⟨⟨rfl, trivial⟩, ?_⟩ | refine ⟨⟨rfl, rfl, trivial⟩, ?_⟩
      conv => whnf
      refine ⟨by show s0.length + 1 ≤ _; omega, ?_⟩
      repeat (conv => whnf); first | refine IndepAnd (by kernel_rfl) ?_ | refine ⟨rfl, ?_⟩ | refine ⟨by decide, ?_⟩ | refine ⟨trivial, ?_⟩ | refine ⟨⟨_, rfl, rfl⟩, ?_⟩ | refine ⟨⟨rfl, trivial⟩, ?_⟩ | refine ⟨⟨rfl, rfl, trivial⟩, ?_⟩
      conv => whnf
      refine ⟨{ i : Nat // i ≤ t.kids.length }, fun i => S.of [(1, .ptr 1 0), (2, .p (.str [])), (4, .p (.str (s0 ++ [40] ++ Tm.texts (t.kids.take i.1)))), (5, iv i.1)] [(1, .var true 24 (tv t))], fun i => t.kids.length - i.1, ⟨0, Nat.zero_le _⟩, ?_, ?_⟩
      · refine Ge.of rfl ?_ ?_
        · repeat (conv => whnf); first | refine ⟨LE.of rfl, ?_⟩ | refine ⟨LE.of (congrArg (fun x => SV.p (PV.str x)) (by show s0 ++ [40] = _; simp [Tm.texts])), ?_⟩
          trivial
        · repeat (conv => whnf); refine ⟨OLE.of rfl, ?_⟩
          trivial
      rintro ⟨i, hi⟩
      repeat (conv => whnf); first | refine IndepAnd (by kernel_rfl) ?_ | refine ⟨rfl, ?_⟩ | refine ⟨by decide, ?_⟩ | refine ⟨trivial, ?_⟩ | refine ⟨⟨_, rfl, rfl⟩, ?_⟩ | refine ⟨⟨rfl, trivial⟩, ?_⟩ | refine ⟨⟨rfl, rfl, trivial⟩, ?_⟩
      conv => whnf
      refine @bool_rec _ _ _ ?_ ?_ <;> intro h3
      · have hlt : i < t.kids.length := by have := of_decide_eq_true h3; rw [tmvs_length] at this; exact Int.ofNat_lt.1 this
        have hm := List.getElem_mem hlt
        have h1l := htl i
        have h2l := htl (i + 1)
        have h3l := hkl _ hm
        have ett := texts_take hlt
        have ettl := congrArg List.length ett
        simp only [List.length_append] at ettl
        repeat (conv => whnf); first | refine IndepAnd (by kernel_rfl) ?_ | refine ⟨rfl, ?_⟩ | refine ⟨by decide, ?_⟩ | refine ⟨trivial, ?_⟩ | refine ⟨⟨_, rfl, rfl⟩, ?_⟩ | refine ⟨⟨rfl, trivial⟩, ?_⟩ | refine ⟨⟨rfl, rfl, trivial⟩, ?_⟩
        conv => whnf
        refine @bool_rec _ _ _ ?_ ?_ <;> intro h4
        · have h4 : 0 < i := by have h4 : (0 : Int) < (i : Int) := of_decide_eq_true h4; omega
          rw [if_pos h4] at ett ettl
          simp only [List.length_cons, List.length_nil] at ettl
          repeat (conv => whnf); first | refine IndepAnd (by kernel_rfl) ?_ | refine ⟨rfl, ?_⟩ | refine ⟨by decide, ?_⟩ | refine ⟨trivial, ?_⟩ | refine ⟨⟨_, rfl, rfl⟩, ?_⟩ | refine ⟨⟨rfl, trivial⟩, ?_⟩ | refine ⟨⟨rfl, rfl, trivial⟩, ?_⟩
          conv => whnf
          refine ⟨by show (s0 ++ [40] ++ Tm.texts (t.kids.take i)).length + 1 ≤ _; simp only [List.length_append, List.length_cons, List.length_nil]; omega, ?_⟩
          repeat (conv => whnf); first | refine IndepAnd (by kernel_rfl) ?_ | refine ⟨rfl, ?_⟩ | refine ⟨by decide, ?_⟩ | refine ⟨trivial, ?_⟩ | refine ⟨⟨_, rfl, rfl⟩, ?_⟩ | refine ⟨⟨rfl, trivial⟩, ?_⟩ | refine ⟨⟨rfl, rfl, trivial⟩, ?_⟩
          conv => whnf
          refine ⟨Int.natCast_nonneg _, TV t.kids[i], tmvs_getN hlt, rfl, rfl, ?_⟩
          repeat (conv => whnf); first | refine IndepAnd (by kernel_rfl) ?_ | refine ⟨rfl, ?_⟩ | refine ⟨by decide, ?_⟩ | refine ⟨trivial, ?_⟩ | refine ⟨⟨_, rfl, rfl⟩, ?_⟩ | refine ⟨⟨rfl, trivial⟩, ?_⟩ | refine ⟨⟨rfl, rfl, trivial⟩, ?_⟩
          conv => whnf
          refine ⟨_, CallVC.pr (ih t.kids[i] hm (hf.kid hm) (hks _ hm) (by omega)) rfl rfl, ?_⟩
          repeat (conv => whnf); first | refine IndepAnd (by kernel_rfl) ?_ | refine ⟨rfl, ?_⟩ | refine ⟨by decide, ?_⟩ | refine ⟨trivial, ?_⟩ | refine ⟨⟨_, rfl, rfl⟩, ?_⟩ | refine ⟨⟨rfl, trivial⟩, ?_⟩ | refine ⟨⟨rfl, rfl, trivial⟩, ?_⟩
          conv => whnf
          refine ⟨by show (s0 ++ [40] ++ Tm.texts (t.kids.take i) ++ [44]).length + t.kids[i].text.length ≤ _; simp only [List.length_append, List.length_cons, List.length_nil]; omega, ?_⟩
          repeat (conv => whnf); first | refine IndepAnd (by kernel_rfl) ?_ | refine ⟨rfl, ?_⟩ | refine ⟨by decide, ?_⟩ | refine ⟨trivial, ?_⟩ | refine ⟨⟨_, rfl, rfl⟩, ?_⟩ | refine ⟨⟨rfl, trivial⟩, ?_⟩ | refine ⟨⟨rfl, rfl, trivial⟩, ?_⟩
          conv => whnf
          refine ⟨_, wrapN (n := i + 1) rfl (by omega), ?_⟩
          repeat (conv => whnf); first | refine IndepAnd (by kernel_rfl) ?_ | refine ⟨rfl, ?_⟩ | refine ⟨by decide, ?_⟩ | refine ⟨trivial, ?_⟩ | refine ⟨⟨_, rfl, rfl⟩, ?_⟩ | refine ⟨⟨rfl, trivial⟩, ?_⟩ | refine ⟨⟨rfl, rfl, trivial⟩, ?_⟩
          conv => whnf
          refine ⟨⟨i + 1, hlt⟩, ?_, by show t.kids.length - (i + 1) < t.kids.length - i; omega⟩
          refine Ge.of rfl ?_ ?_
          · repeat (conv => whnf); first | refine ⟨LE.of rfl, ?_⟩ | refine ⟨LE.of (congrArg (fun x => SV.p (PV.str x)) (by show s0 ++ [40] ++ Tm.texts (t.kids.take i) ++ [44] ++ t.kids[i].text = s0 ++ [40] ++ Tm.texts (t.kids.take (i + 1)); rw [ett]; simp)), ?_⟩
            trivial
          · repeat (conv => whnf); refine ⟨OLE.of rfl, ?_⟩
            trivial
        · have h4 : ¬ 0 < i := by have h4 : ¬ (0 : Int) < (i : Int) := of_decide_eq_false h4; omega
          rw [if_neg h4] at ett ettl
          simp only [List.length_cons, List.length_nil] at ettl
          repeat (conv => whnf); first | refine IndepAnd (by kernel_rfl) ?_ | refine ⟨rfl, ?_⟩ | refine ⟨by decide, ?_⟩ | refine ⟨trivial, ?_⟩ | refine ⟨⟨_, rfl, rfl⟩, ?_⟩ | refine ⟨⟨rfl, trivial⟩, ?_⟩ | refine ⟨⟨rfl, rfl, trivial⟩, ?_⟩
          conv => whnf
          refine ⟨Int.natCast_nonneg _, TV t.kids[i], tmvs_getN hlt, rfl, rfl, ?_⟩
          repeat (conv => whnf); first | refine IndepAnd (by kernel_rfl) ?_ | refine ⟨rfl, ?_⟩ | refine ⟨by decide, ?_⟩ | refine ⟨trivial, ?_⟩ | refine ⟨⟨_, rfl, rfl⟩, ?_⟩ | refine ⟨⟨rfl, trivial⟩, ?_⟩ | refine ⟨⟨rfl, rfl, trivial⟩, ?_⟩
          conv => whnf
          refine ⟨_, CallVC.pr (ih t.kids[i] hm (hf.kid hm) (hks _ hm) (by omega)) rfl rfl, ?_⟩
          repeat (conv => whnf); first | refine IndepAnd (by kernel_rfl) ?_ | refine ⟨rfl, ?_⟩ | refine ⟨by decide, ?_⟩ | refine ⟨trivial, ?_⟩ | refine ⟨⟨_, rfl, rfl⟩, ?_⟩ | refine ⟨⟨rfl, trivial⟩, ?_⟩ | refine ⟨⟨rfl, rfl, trivial⟩, ?_⟩
          conv => whnf
          refine ⟨by show (s0 ++ [40] ++ Tm.texts (t.kids.take i)).length + t.kids[i].text.length ≤ _; simp only [List.length_append, List.length_cons, List.length_nil]; omega, ?_⟩
          repeat (conv => whnf); first | refine IndepAnd (by kernel_rfl) ?_ | refine ⟨rfl, ?_⟩ | refine ⟨by decide, ?_⟩ | refine ⟨trivial, ?_⟩ | refine ⟨⟨_, rfl, rfl⟩, ?_⟩ | refine ⟨⟨rfl, trivial⟩, ?_⟩ | refine ⟨⟨rfl, rfl, trivial⟩, ?_⟩
          conv => whnf
          refine ⟨_, wrapN (n := i + 1) rfl (by omega), ?_⟩
          repeat (conv => whnf); first | refine IndepAnd (by kernel_rfl) ?_ | refine ⟨rfl, ?_⟩ | refine ⟨by decide, ?_⟩ | refine ⟨trivial, ?_⟩ | refine ⟨⟨_, rfl, rfl⟩, ?_⟩ | refine ⟨⟨rfl, trivial⟩, ?_⟩ | refine ⟨⟨rfl, rfl, trivial⟩, ?_⟩
          conv => whnf
          refine ⟨⟨i + 1, hlt⟩, ?_, by show t.kids.length - (i + 1) < t.kids.length - i; omega⟩
          refine Ge.of rfl ?_ ?_
          · repeat (conv => whnf); first | refine ⟨LE.of rfl, ?_⟩ | refine ⟨LE.of (congrArg (fun x => SV.p (PV.str x)) (by show s0 ++ [40] ++ Tm.texts (t.kids.take i) ++ t.kids[i].text = s0 ++ [40] ++ Tm.texts (t.kids.take (i + 1)); rw [ett]; simp)), ?_⟩
            trivial
          · repeat (conv => whnf); refine ⟨OLE.of rfl, ?_⟩
            trivial
      · have hge : t.kids.take i = t.kids := List.take_of_length_le (by have := of_decide_eq_false h3; rw [tmvs_length] at this; have h5 : ¬ ((i : Int) < t.kids.length) := this; omega)
        rw [hge]
        repeat (conv => whnf); first | refine IndepAnd (by kernel_rfl) ?_ | refine ⟨rfl, ?_⟩ | refine ⟨by decide, ?_⟩ | refine ⟨trivial, ?_⟩ | refine ⟨⟨_, rfl, rfl⟩, ?_⟩ | refine ⟨⟨rfl, trivial⟩, ?_⟩ | refine ⟨⟨rfl, rfl, trivial⟩, ?_⟩
        conv => whnf
        refine ⟨by show (s0 ++ [40] ++ Tm.texts t.kids).length + 1 ≤ _; simp only [List.length_append, List.length_cons, List.length_nil]; omega, ?_⟩
        repeat (conv => whnf); first | refine IndepAnd (by kernel_rfl) ?_ | refine ⟨rfl, ?_⟩ | refine ⟨by decide, ?_⟩ | refine ⟨trivial, ?_⟩ | refine ⟨⟨_, rfl, rfl⟩, ?_⟩ | refine ⟨⟨rfl, trivial⟩, ?_⟩ | refine ⟨⟨rfl, rfl, trivial⟩, ?_⟩
        conv => whnf
        exact LEP.of (congrArg PV.str etx.symm)
  · have h1 : t.name = [] := by have h1 : ¬ t.name ≠ [] := of_decide_eq_false h1; exact Classical.not_not.1 h1
    obtain ⟨s0, es0⟩ : ∃ s0, s0 = [Tm.letter t.kind] := ⟨_, rfl⟩
    have es : s0 = Tm.letter t.kind :: Tm.nameText t.name := by rw [es0, h1]; rfl
    repeat (conv => whnf); first | refine IndepAnd (by kernel_rfl) ?_ | refine ⟨rfl, ?_⟩ | refine ⟨by decide, ?_⟩ | refine ⟨trivial, ?_⟩ | refine ⟨⟨_, rfl, rfl⟩, ?_⟩ | refine ⟨⟨rfl, trivial⟩, ?_⟩ | refine ⟨⟨rfl, rfl, trivial⟩, ?_⟩
    conv => whnf
    rw [← es0]
    refine @bool_rec _ _ _ ?_ ?_ <;> intro h2
    · have h2 : t.kind ≤ 2 := of_decide_eq_true h2
      repeat (conv => whnf); first | refine IndepAnd (by kernel_rfl) ?_ | refine ⟨rfl, ?_⟩ | refine ⟨by decide, ?_⟩ | refine ⟨trivial, ?_⟩ | refine ⟨⟨_, rfl, rfl⟩, ?_⟩ | refine ⟨⟨rfl, trivial⟩, ?_⟩ | refine ⟨⟨rfl, rfl, trivial⟩, ?_⟩
      conv => whnf
      refine LEP.of (congrArg PV.str ?_)
      have hk0 : t.kids = [] := by
        have h3 := ((shp_mk t).1 hs).1
        simp only [Tm.known, Bool.and_eq_true, decide_eq_true_eq] at h3
        have h4 : t.kind = 1 ∨ t.kind = 2 := by omega
        have h5 := h3.2.2
        rcases h4 with h4 | h4 <;> rw [h4] at h5 <;> simp [Tm.arity] at h5 <;> exact h5
      have e4 : t.text = s0 := by rw [es, text_mk, if_pos ⟨hk0, by omega⟩, List.append_nil]
      exact e4.symm
    · have h2 : ¬ t.kind ≤ 2 := of_decide_eq_false h2
      have hns : ¬ (t.kids = [] ∧ t.kind ≠ 3) := by
        rintro ⟨h3, h4⟩
        have h5 := ((shp_mk t).1 hs).1.2.2
        rw [h3] at h5
        have h6 := ((shp_mk t).1 hs).1.1
        simp only [Tm.known, Bool.and_eq_true, decide_eq_true_eq] at h6
        have h7 : t.kind = 4 ∨ t.kind = 5 ∨ t.kind = 6 ∨ t.kind = 7 ∨ t.kind = 8 ∨ t.kind = 9 ∨ t.kind = 10 := by omega
        rcases h7 with h7 | h7 | h7 | h7 | h7 | h7 | h7 <;> rw [h7] at h5 <;> simp [Tm.arity] at h5
      have etx : t.text = s0 ++ [40] ++ Tm.texts t.kids ++ [41] := by rw [es, text_mk, if_neg hns]; simp
      have hbb := hb
      rw [etx] at hbb
      simp only [List.length_append, List.length_cons, List.length_nil] at hbb
      have htl := texts_take_len t.kids
      have hkl := (texts_len t.kids).2
      repeat (conv => whnf); first | refine IndepAnd (by kernel_rfl) ?_ | refine ⟨rfl, ?_⟩ | refine ⟨by decide, ?_⟩ | refine ⟨trivial, ?_⟩ | refine ⟨⟨_, rfl, rfl⟩, ?_⟩ | refine ⟨⟨rfl, trivial⟩, ?_⟩ | refine ⟨⟨rfl, rfl, trivial⟩, ?_⟩
      conv => whnf
      refine ⟨by show s0.length + 1 ≤ _; omega, ?_⟩
      repeat (conv => whnf); first | refine IndepAnd (by kernel_rfl) ?_ | refine ⟨rfl, ?_⟩ | refine ⟨by decide, ?_⟩ | refine ⟨trivial, ?_⟩ | refine ⟨⟨_, rfl, rfl⟩, ?_⟩ | refine ⟨⟨rfl, trivial⟩, ?_⟩ | refine ⟨⟨rfl, rfl, trivial⟩, ?_⟩
      conv => whnf
      refine ⟨{ i : Nat // i ≤ t.kids.length }, fun i => S.of [(1, .ptr 1 0), (2, .p (.str [])), (4, .p (.str (s0 ++ [40] ++ Tm.texts (t.kids.take i.1)))), (5, iv i.1)] [(1, .var true 24 (tv t))], fun i => t.kids.length - i.1, ⟨0, Nat.zero_le _⟩, ?_, ?_⟩
      · refine Ge.of rfl ?_ ?_
        · repeat (conv => whnf); first | refine ⟨LE.of rfl, ?_⟩ | refine ⟨LE.of (congrArg (fun x => SV.p (PV.str x)) (by show s0 ++ [40] = _; simp [Tm.texts])), ?_⟩
          trivial
        · repeat (conv => whnf); refine ⟨OLE.of rfl, ?_⟩
          trivial
      rintro ⟨i, hi⟩
      repeat (conv => whnf); first | refine IndepAnd (by kernel_rfl) ?_ | refine ⟨rfl, ?_⟩ | refine ⟨by decide, ?_⟩ | refine ⟨trivial, ?_⟩ | refine ⟨⟨_, rfl, rfl⟩, ?_⟩ | refine ⟨⟨rfl, trivial⟩, ?_⟩ | refine ⟨⟨rfl, rfl, trivial⟩, ?_⟩
      conv => whnf
      refine @bool_rec _ _ _ ?_ ?_ <;> intro h3
      · have hlt : i < t.kids.length := by have := of_decide_eq_true h3; rw [tmvs_length] at this; exact Int.ofNat_lt.1 this
        have hm := List.getElem_mem hlt
        have h1l := htl i
        have h2l := htl (i + 1)
        have h3l := hkl _ hm
        have ett := texts_take hlt
        have ettl := congrArg List.length ett
        simp only [List.length_append] at ettl
        repeat (conv => whnf); first | refine IndepAnd (by kernel_rfl) ?_ | refine ⟨rfl, ?_⟩ | refine ⟨by decide, ?_⟩ | refine ⟨trivial, ?_⟩ | refine ⟨⟨_, rfl, rfl⟩, ?_⟩ | refine ⟨⟨rfl, trivial⟩, ?_⟩ | refine ⟨⟨rfl, rfl, trivial⟩, ?_⟩
        conv => whnf
        refine @bool_rec _ _ _ ?_ ?_ <;> intro h4
        · have h4 : 0 < i := by have h4 : (0 : Int) < (i : Int) := of_decide_eq_true h4; omega
          rw [if_pos h4] at ett ettl
          simp only [List.length_cons, List.length_nil] at ettl
          repeat (conv => whnf); first | refine IndepAnd (by kernel_rfl) ?_ | refine ⟨rfl, ?_⟩ | refine ⟨by decide, ?_⟩ | refine ⟨trivial, ?_⟩ | refine ⟨⟨_, rfl, rfl⟩, ?_⟩ | refine ⟨⟨rfl, trivial⟩, ?_⟩ | refine ⟨⟨rfl, rfl, trivial⟩, ?_⟩
          conv => whnf
          refine ⟨by show (s0 ++ [40] ++ Tm.texts (t.kids.take i)).length + 1 ≤ _; simp only [List.length_append, List.length_cons, List.length_nil]; omega, ?_⟩
          repeat (conv => whnf); first | refine IndepAnd (by kernel_rfl) ?_ | refine ⟨rfl, ?_⟩ | refine ⟨by decide, ?_⟩ | refine ⟨trivial, ?_⟩ | refine ⟨⟨_, rfl, rfl⟩, ?_⟩ | refine ⟨⟨rfl, trivial⟩, ?_⟩ | refine ⟨⟨rfl, rfl, trivial⟩, ?_⟩
          conv => whnf
          refine ⟨Int.natCast_nonneg _, TV t.kids[i], tmvs_getN hlt, rfl, rfl, ?_⟩
          repeat (conv => whnf); first | refine IndepAnd (by kernel_rfl) ?_ | refine ⟨rfl, ?_⟩ | refine ⟨by decide, ?_⟩ | refine ⟨trivial, ?_⟩ | refine ⟨⟨_, rfl, rfl⟩, ?_⟩ | refine ⟨⟨rfl, trivial⟩, ?_⟩ | refine ⟨⟨rfl, rfl, trivial⟩, ?_⟩
          conv => whnf
          refine ⟨_, CallVC.pr (ih t.kids[i] hm (hf.kid hm) (hks _ hm) (by omega)) rfl rfl, ?_⟩
          repeat (conv => whnf); first | refine IndepAnd (by kernel_rfl) ?_ | refine ⟨rfl, ?_⟩ | refine ⟨by decide, ?_⟩ | refine ⟨trivial, ?_⟩ | refine ⟨⟨_, rfl, rfl⟩, ?_⟩ | refine ⟨⟨rfl, trivial⟩, ?_⟩ | refine ⟨⟨rfl, rfl, trivial⟩, ?_⟩
          conv => whnf
          refine ⟨by show (s0 ++ [40] ++ Tm.texts (t.kids.take i) ++ [44]).length + t.kids[i].text.length ≤ _; simp only [List.length_append, List.length_cons, List.length_nil]; omega, ?_⟩
          repeat (conv => whnf); first | refine IndepAnd (by kernel_rfl) ?_ | refine ⟨rfl, ?_⟩ | refine ⟨by decide, ?_⟩ | refine ⟨trivial, ?_⟩ | refine ⟨⟨_, rfl, rfl⟩, ?_⟩ | refine ⟨⟨rfl, trivial⟩, ?_⟩ | refine ⟨⟨rfl, rfl, trivial⟩, ?_⟩
          conv => whnf
          refine ⟨_, wrapN (n := i + 1) rfl (by omega), ?_⟩
          repeat (conv => whnf); first | refine IndepAnd (by kernel_rfl) ?_ | refine ⟨rfl, ?_⟩ | refine ⟨by decide, ?_⟩ | refine ⟨trivial, ?_⟩ | refine ⟨⟨_, rfl, rfl⟩, ?_⟩ | refine ⟨⟨rfl, trivial⟩, ?_⟩ | refine ⟨⟨rfl, rfl, trivial⟩, ?_⟩
          conv => whnf
          refine ⟨⟨i + 1, hlt⟩, ?_, by show t.kids.length - (i + 1) < t.kids.length - i; omega⟩
          refine Ge.of rfl ?_ ?_
          · repeat (conv => whnf); first | refine ⟨LE.of rfl, ?_⟩ | refine ⟨LE.of (congrArg (fun x => SV.p (PV.str x)) (by show s0 ++ [40] ++ Tm.texts (t.kids.take i) ++ [44] ++ t.kids[i].text = s0 ++ [40] ++ Tm.texts (t.kids.take (i + 1)); rw [ett]; simp)), ?_⟩
            trivial
          · repeat (conv => whnf); refine ⟨OLE.of rfl, ?_⟩
            trivial
        · have h4 : ¬ 0 < i := by have h4 : ¬ (0 : Int) < (i : Int) := of_decide_eq_false h4; omega
          rw [if_neg h4] at ett ettl
          simp only [List.length_cons, List.length_nil] at ettl
          repeat (conv => whnf); first | refine IndepAnd (by kernel_rfl) ?_ | refine ⟨rfl, ?_⟩ | refine ⟨by decide, ?_⟩ | refine ⟨trivial, ?_⟩ | refine ⟨⟨_, rfl, rfl⟩, ?_⟩ | refine ⟨⟨rfl, trivial⟩, ?_⟩ | refine ⟨⟨rfl, rfl, trivial⟩, ?_⟩
          conv => whnf
          refine ⟨Int.natCast_nonneg _, TV t.kids[i], tmvs_getN hlt, rfl, rfl, ?_⟩
          repeat (conv => whnf); first | refine IndepAnd (by kernel_rfl) ?_ | refine ⟨rfl, ?_⟩ | refine ⟨by decide, ?_⟩ | refine ⟨trivial, ?_⟩ | refine ⟨⟨_, rfl, rfl⟩, ?_⟩ | refine ⟨⟨rfl, trivial⟩, ?_⟩ | refine ⟨⟨rfl, rfl, trivial⟩, ?_⟩
          conv => whnf
          refine ⟨_, CallVC.pr (ih t.kids[i] hm (hf.kid hm) (hks _ hm) (by omega)) rfl rfl, ?_⟩
          repeat (conv => whnf); first | refine IndepAnd (by kernel_rfl) ?_ | refine ⟨rfl, ?_⟩ | refine ⟨by decide, ?_⟩ | refine ⟨trivial, ?_⟩ | refine ⟨⟨_, rfl, rfl⟩, ?_⟩ | refine ⟨⟨rfl, trivial⟩, ?_⟩ | refine ⟨⟨rfl, rfl, trivial⟩, ?_⟩
          conv => whnf
          refine ⟨by show (s0 ++ [40] ++ Tm.texts (t.kids.take i)).length + t.kids[i].text.length ≤ _; simp only [List.length_append, List.length_cons, List.length_nil]; omega, ?_⟩
          repeat (conv => whnf); first | refine IndepAnd (by kernel_rfl) ?_ | refine ⟨rfl, ?_⟩ | refine ⟨by decide, ?_⟩ | refine ⟨trivial, ?_⟩ | refine ⟨⟨_, rfl, rfl⟩, ?_⟩ | refine ⟨⟨rfl, trivial⟩, ?_⟩ | refine ⟨⟨rfl, rfl, trivial⟩, ?_⟩
          conv => whnf
          refine ⟨_, wrapN (n := i + 1) rfl (by omega), ?_⟩
          repeat (conv => whnf); first | refine IndepAnd (by kernel_rfl) ?_ | refine ⟨rfl, ?_⟩ | refine ⟨by decide, ?_⟩ | refine ⟨trivial, ?_⟩ | refine ⟨⟨_, rfl, rfl⟩, ?_⟩ | refine ⟨⟨rfl, trivial⟩, ?_⟩ | refine ⟨⟨rfl, rfl, trivial⟩, ?_⟩
          conv => whnf
          refine ⟨⟨i + 1, hlt⟩, ?_, by show t.kids.length - (i + 1) < t.kids.length - i; omega⟩
          refine Ge.of rfl ?_ ?_
          · repeat (conv => whnf); first | refine ⟨LE.of rfl, ?_⟩ | refine ⟨LE.of (congrArg (fun x => SV.p (PV.str x)) (by show s0 ++ [40] ++ Tm.texts (t.kids.take i) ++ t.kids[i].text = s0 ++ [40] ++ Tm.texts (t.kids.take (i + 1)); rw [ett]; simp)), ?_⟩
            trivial
          · repeat (conv => whnf); refine ⟨OLE.of rfl, ?_⟩
            trivial
      · have hge : t.kids.take i = t.kids := List.take_of_length_le (by have := of_decide_eq_false h3; rw [tmvs_length] at this; have h5 : ¬ ((i : Int) < t.kids.length) := this; omega)
        rw [hge]
        repeat (conv => whnf); first | refine IndepAnd (by kernel_rfl) ?_ | refine ⟨rfl, ?_⟩ | refine ⟨by decide, ?_⟩ | refine ⟨trivial, ?_⟩ | refine ⟨⟨_, rfl, rfl⟩, ?_⟩ | refine ⟨⟨rfl, trivial⟩, ?_⟩ | refine ⟨⟨rfl, rfl, trivial⟩, ?_⟩
        conv => whnf
        refine ⟨by show (s0 ++ [40] ++ Tm.texts t.kids).length + 1 ≤ _; simp only [List.length_append, List.length_cons, List.length_nil]; omega, ?_⟩
        repeat (conv => whnf); first | refine IndepAnd (by kernel_rfl) ?_ | refine ⟨rfl, ?_⟩ | refine ⟨by decide, ?_⟩ | refine ⟨trivial, ?_⟩ | refine ⟨⟨_, rfl, rfl⟩, ?_⟩ | refine ⟨⟨rfl, trivial⟩, ?_⟩ | refine ⟨⟨rfl, rfl, trivial⟩, ?_⟩
        conv => whnf
        exact LEP.of (congrArg PV.str etx.symm)
/-! Text -/
theorem txt_eq (t : Tm) : txtT t = if t.shp = true ∧ t.depth ≤ 60 then t.text else [] := by
  unfold txtT
  by_cases h : t.shp = true ∧ t.depth ≤ 60
  · rw [if_pos h, if_pos ((shpD_iff _ _).2 h)]
  · rw [if_neg h, if_neg (fun h' => h ((shpD_iff _ _).1 h'))]
theorem Text07_ok (b : Bool) (t : Tm) (hf : Fit t) (hw : wt t ≤ 1000000000) : K b 54 [tv t] (.pv (.str (txtT t))) := by
  have hb := text_big hf hw
  have e := txt_eq t
  refine PC_of_vc (cx_ok b) (mixed b) {} Tryd.func54 (by kernel_rfl) rfl rfl (by kernel_rfl) ?_
  repeat (conv => whnf); first | refine IndepAnd (by kernel_rfl) ?_ | refine ⟨rfl, ?_⟩ | refine ⟨by decide, ?_⟩ | refine ⟨trivial, ?_⟩ | refine ⟨⟨_, rfl, rfl⟩, ?_⟩ | refine ⟨⟨rfl, trivial⟩, ?_⟩ | refine ⟨⟨rfl, rfl, trivial⟩, ?_⟩
  conv => whnf
  refine ⟨_, CallVC.pr (deep07_ok b t hf 61 (by decide) (by decide)) rfl rfl, ?_⟩
  repeat (conv => whnf); first | refine IndepAnd (by kernel_rfl) ?_ | refine ⟨rfl, ?_⟩ | refine ⟨by decide, ?_⟩ | refine ⟨trivial, ?_⟩ | refine ⟨⟨_, rfl, rfl⟩, ?_⟩ | refine ⟨⟨rfl, trivial⟩, ?_⟩ | refine ⟨⟨rfl, rfl, trivial⟩, ?_⟩
  conv => whnf
  refine @bool_rec _ _ _ ?_ ?_ <;> intro h1
  · have h1 : 60 < depT t 61 := by have h1 : (60 : Int) < ((depT t 61 : Nat) : Int) := of_decide_eq_true h1; omega
    rw [depT] at h1
    rw [if_neg (by omega)] at e
    rw [e]
    repeat (conv => whnf); first | refine IndepAnd (by kernel_rfl) ?_ | refine ⟨rfl, ?_⟩ | refine ⟨by decide, ?_⟩ | refine ⟨trivial, ?_⟩ | refine ⟨⟨_, rfl, rfl⟩, ?_⟩ | refine ⟨⟨rfl, trivial⟩, ?_⟩ | refine ⟨⟨rfl, rfl, trivial⟩, ?_⟩
    conv => whnf
    exact LEP.refl _
  · have h1 : ¬ 60 < depT t 61 := by have h1 : ¬ (60 : Int) < ((depT t 61 : Nat) : Int) := of_decide_eq_false h1; omega
    rw [depT] at h1
    repeat (conv => whnf); first | refine IndepAnd (by kernel_rfl) ?_ | refine ⟨rfl, ?_⟩ | refine ⟨by decide, ?_⟩ | refine ⟨trivial, ?_⟩ | refine ⟨⟨_, rfl, rfl⟩, ?_⟩ | refine ⟨⟨rfl, trivial⟩, ?_⟩ | refine ⟨⟨rfl, rfl, trivial⟩, ?_⟩
    conv => whnf
    refine ⟨_, CallVC.pr (shape07_ok b t hf) rfl rfl, ?_⟩
    repeat (conv => whnf); first | refine IndepAnd (by kernel_rfl) ?_ | refine ⟨rfl, ?_⟩ | refine ⟨by decide, ?_⟩ | refine ⟨trivial, ?_⟩ | refine ⟨⟨_, rfl, rfl⟩, ?_⟩ | refine ⟨⟨rfl, trivial⟩, ?_⟩ | refine ⟨⟨rfl, rfl, trivial⟩, ?_⟩
    conv => whnf
    refine @bool_rec _ _ _ ?_ ?_ <;> intro h2
    · have h2 : ¬ t.shp = true := by have h2 : (!t.shp) = true := h2; simpa using h2
      rw [if_neg (fun h => h2 h.1)] at e
      rw [e]
      repeat (conv => whnf); first | refine IndepAnd (by kernel_rfl) ?_ | refine ⟨rfl, ?_⟩ | refine ⟨by decide, ?_⟩ | refine ⟨trivial, ?_⟩ | refine ⟨⟨_, rfl, rfl⟩, ?_⟩ | refine ⟨⟨rfl, trivial⟩, ?_⟩ | refine ⟨⟨rfl, rfl, trivial⟩, ?_⟩
      conv => whnf
      exact LEP.refl _
    · have h2 : t.shp = true := by have h2 : (!t.shp) = false := h2; simpa using h2
      rw [if_pos ⟨h2, by omega⟩] at e
      rw [e]
      repeat (conv => whnf); first | refine IndepAnd (by kernel_rfl) ?_ | refine ⟨rfl, ?_⟩ | refine ⟨by decide, ?_⟩ | refine ⟨trivial, ?_⟩ | refine ⟨⟨_, rfl, rfl⟩, ?_⟩ | refine ⟨⟨rfl, trivial⟩, ?_⟩ | refine ⟨⟨rfl, rfl, trivial⟩, ?_⟩
      conv => whnf
      refine ⟨_, CallVC.pr (text07_ok b t hf h2 hb) rfl rfl, ?_⟩
      repeat (conv => whnf); first | refine IndepAnd (by kernel_rfl) ?_ | refine ⟨rfl, ?_⟩ | refine ⟨by decide, ?_⟩ | refine ⟨trivial, ?_⟩ | refine ⟨⟨_, rfl, rfl⟩, ?_⟩ | refine ⟨⟨rfl, trivial⟩, ?_⟩ | refine ⟨⟨rfl, rfl, trivial⟩, ?_⟩
      conv => whnf
      exact LEP.refl _
end Go.Sl
