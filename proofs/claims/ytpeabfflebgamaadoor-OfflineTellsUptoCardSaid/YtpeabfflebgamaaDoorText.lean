import Derived.Lib.ItoaNum
import Derived.Test.YtpeabfflebgamaaDoorTm
open Go.Lib (decDigits)
theorem decDigits_range : ∀ u : Nat, ∀ c ∈ decDigits u, 48 ≤ c.toNat ∧ c.toNat ≤ 57 := by
  intro u
  induction u using Nat.strongRecOn with
  | _ u ih =>
    intro c hc
    rw [decDigits] at hc
    by_cases h : u < 10
    · rw [dif_pos h] at hc
      simp at hc
      subst hc
      simp [UInt8.toNat_ofNat']
      omega
    · rw [dif_neg h] at hc
      rw [List.mem_append] at hc
      rcases hc with hc | hc
      · exact ih (u / 10) (by omega) c hc
      · simp at hc
        subst hc
        simp [UInt8.toNat_ofNat']
        omega
def undec (l : Bs) : Nat := l.foldl (fun n c => n * 10 + (c.toNat - 48)) 0
theorem undec_dec (u : Nat) : undec (decDigits u) = u := by
  induction u using Nat.strongRecOn with
  | _ u ih =>
    rw [decDigits]
    by_cases h : u < 10
    · rw [dif_pos h]
      simp [undec, UInt8.toNat_ofNat']
      omega
    · rw [dif_neg h]
      have := ih (u / 10) (by omega)
      unfold undec at this ⊢
      rw [List.foldl_append, this]
      simp [UInt8.toNat_ofNat']
      omega
theorem decDigits_inj {a b : Nat} (h : decDigits a = decDigits b) : a = b := by
  rw [← undec_dec a, h, undec_dec]
theorem decDigits_ne (u : Nat) : decDigits u ≠ [] := by
  rw [decDigits]
  split <;> simp
/-- what stands ahead of a byte that is in neither -/
theorem split_at {p q r s : Bs} {c : UInt8} (hp : c ∉ p) (hq : c ∉ q) (h : p ++ c :: r = q ++ c :: s) : p = q ∧ r = s := by
  induction p generalizing q with
  | nil =>
    cases q with
    | nil => simpa using h
    | cons x q =>
      simp at h
      exact absurd (by rw [h.1]; exact List.mem_cons_self ..) hq
  | cons x p ih =>
    cases q with
    | nil =>
      simp at h
      exact absurd (by rw [← h.1]; exact List.mem_cons_self ..) hp
    | cons y q =>
      simp at h
      have := ih (fun hc => hp (List.mem_cons_of_mem _ hc)) (fun hc => hq (List.mem_cons_of_mem _ hc)) h.2
      exact ⟨by rw [h.1, this.1], this.2⟩

namespace Tm
def letter (k : Int) : UInt8 :=
  if k = 1 then 100 else if k = 2 then 97 else if k = 3 then 112 else if k = 4 then 101 else if k = 5 then 109 else
  if k = 6 then 104 else if k = 7 then 107 else if k = 8 then 117 else if k = 9 then 115 else 120
def named (k : Int) : Bool := k == 1 || k == 2 || k == 7
def arity (k : Int) : Int := if k = 1 ∨ k = 2 then 0 else if k = 3 then -1 else if k = 6 ∨ k = 7 ∨ k = 8 then 1 else 2
def known (k : Int) : Bool := decide (1 ≤ k) && decide (k ≤ 10)
/-- how a name stands in a text -/
def nameText (n : Bs) : Bs := if n = [] then [] else decDigits n.length ++ 58 :: n
mutual
def text : Tm → Bs
  | mk k n l => letter k :: (nameText n ++ (if l = [] ∧ k ≠ 3 then [] else 40 :: (texts l ++ [41])))
def texts : List Tm → Bs
  | [] => []
  | t :: ts => text t ++ texts' ts
def texts' : List Tm → Bs
  | [] => []
  | t :: ts => 44 :: (text t ++ texts' ts)
end
mutual
/-- of the right shape, but for depth -/
def shp : Tm → Bool
  | mk k n l => known k && (named k == !n.isEmpty) && (decide (arity k < 0) || decide ((l.length : Int) = arity k)) && shps l
def shps : List Tm → Bool
  | [] => true
  | t :: ts => shp t && shps ts
end
theorem shps_iff (l : List Tm) : shps l = true ↔ ∀ t ∈ l, shp t = true := by
  induction l with
  | nil => simp [shps]
  | cons t ts ih => simp [shps, ih]
theorem letter_inj {a b : Int} (ha : known a = true) (hb : known b = true) (h : letter a = letter b) : a = b := by
  simp [known] at ha hb
  have ha' : a = 1 ∨ a = 2 ∨ a = 3 ∨ a = 4 ∨ a = 5 ∨ a = 6 ∨ a = 7 ∨ a = 8 ∨ a = 9 ∨ a = 10 := by omega
  have hb' : b = 1 ∨ b = 2 ∨ b = 3 ∨ b = 4 ∨ b = 5 ∨ b = 6 ∨ b = 7 ∨ b = 8 ∨ b = 9 ∨ b = 10 := by omega
  rcases ha' with rfl | rfl | rfl | rfl | rfl | rfl | rfl | rfl | rfl | rfl <;>
    rcases hb' with rfl | rfl | rfl | rfl | rfl | rfl | rfl | rfl | rfl | rfl <;> first | rfl | (revert h; decide)
theorem letter_lo (k : Int) : 97 ≤ (letter k).toNat := by
  unfold letter
  repeat' split
  all_goals decide
theorem nameText_inj {n m r s : Bs} (hn : n ≠ []) (hm : m ≠ []) (h : nameText n ++ r = nameText m ++ s) : n = m ∧ r = s := by
  simp only [nameText, hn, hm, if_false, List.append_assoc, List.cons_append] at h
  have h58 : ∀ u, (58 : UInt8) ∉ decDigits u := fun u hc => by
    have := decDigits_range u 58 hc
    revert this; decide
  obtain ⟨h1, h2⟩ := split_at (h58 _) (h58 _) h
  have hl := decDigits_inj h1
  exact List.append_inj h2 hl
theorem texts_cons (t : Tm) (ts : List Tm) : texts (t :: ts) = text t ++ texts' ts := by rw [texts]

mutual
/-- no right text begins another one: what follows two texts is told by them -/
theorem text_inj : ∀ (t u : Tm) (r s : Bs), shp t = true → shp u = true → text t ++ r = text u ++ s → t = u ∧ r = s
  | mk k n l, mk k' n' l', r, s, ht, hu, h => by
    simp only [shp, Bool.and_eq_true, beq_iff_eq, Bool.or_eq_true, decide_eq_true_eq] at ht hu
    obtain ⟨⟨⟨hk, hn⟩, ha⟩, hs⟩ := ht
    obtain ⟨⟨⟨hk', hn'⟩, ha'⟩, hs'⟩ := hu
    simp only [text, List.cons_append, List.append_assoc] at h
    injection h with h1 h2
    have hkk := letter_inj hk hk' h1
    subst hkk
    have key : n = n' ∧ (if l = [] ∧ k ≠ 3 then [] else 40 :: (texts l ++ [41])) ++ r = (if l' = [] ∧ k ≠ 3 then [] else 40 :: (texts l' ++ [41])) ++ s := by
      cases hb : named k with
      | true =>
        rw [hb] at hn hn'
        have a1 : n ≠ [] := by intro e; subst e; simp at hn
        have a2 : n' ≠ [] := by intro e; subst e; simp at hn'
        exact nameText_inj a1 a2 h2
      | false =>
        rw [hb] at hn hn'
        have a1 : n = [] := by simpa using hn.symm
        have a2 : n' = [] := by simpa using hn'.symm
        subst a1; subst a2
        simp only [nameText, if_true, List.nil_append] at h2
        exact ⟨rfl, h2⟩
    obtain ⟨rfl, h3⟩ := key
    by_cases h0 : arity k = 0
    · have e1 : l = [] := by
        rcases ha with ha | ha
        · omega
        · rw [h0] at ha; exact List.length_eq_zero_iff.1 (by omega)
      have e2 : l' = [] := by
        rcases ha' with ha | ha
        · omega
        · rw [h0] at ha; exact List.length_eq_zero_iff.1 (by omega)
      subst e1; subst e2
      have k3 : k ≠ 3 := by intro e; subst e; revert h0; decide
      simp [k3] at h3
      exact ⟨rfl, h3⟩
    · have c1 : ¬ (l = [] ∧ k ≠ 3) := by
        rintro ⟨rfl, hk3⟩
        rcases ha with ha | ha
        · unfold arity at ha; repeat' split at ha
          all_goals omega
        · simp at ha; omega
      have c2 : ¬ (l' = [] ∧ k ≠ 3) := by
        rintro ⟨rfl, hk3⟩
        rcases ha' with ha | ha
        · unfold arity at ha; repeat' split at ha
          all_goals omega
        · simp at ha; omega
      rw [if_neg c1, if_neg c2] at h3
      simp only [List.cons_append, List.append_assoc] at h3
      injection h3 with _ h4
      obtain ⟨rfl, h5⟩ := texts_inj l l' r s hs hs' (by simpa using h4)
      exact ⟨rfl, h5⟩
theorem texts_inj : ∀ (l l' : List Tm) (r s : Bs), shps l = true → shps l' = true → texts l ++ 41 :: r = texts l' ++ 41 :: s → l = l' ∧ r = s
  | [], [], r, s, _, _, h => by simpa [texts] using h
  | [], mk k n l :: us, r, s, _, hu, h => by
    simp only [texts, text, List.nil_append, List.cons_append] at h
    injection h with h1 _
    have := letter_lo k
    rw [← h1] at this
    exact absurd this (by decide)
  | mk k n l :: us, [], r, s, _, hu, h => by
    simp only [texts, text, List.nil_append, List.cons_append] at h
    injection h with h1 _
    have := letter_lo k
    rw [h1] at this
    exact absurd this (by decide)
  | t :: ts, u :: us, r, s, ht, hu, h => by
    simp only [shps, Bool.and_eq_true] at ht hu
    simp only [texts, List.append_assoc] at h
    obtain ⟨rfl, h1⟩ := text_inj t u _ _ ht.1 hu.1 h
    obtain ⟨rfl, h2⟩ := texts'_inj ts us r s ht.2 hu.2 h1
    exact ⟨rfl, h2⟩
theorem texts'_inj : ∀ (l l' : List Tm) (r s : Bs), shps l = true → shps l' = true → texts' l ++ 41 :: r = texts' l' ++ 41 :: s → l = l' ∧ r = s
  | [], [], r, s, _, _, h => by simpa [texts'] using h
  | [], u :: us, r, s, _, hu, h => by
    simp only [texts', List.nil_append, List.cons_append] at h
    injection h with h1 _
    exact absurd h1 (by decide)
  | t :: ts, [], r, s, _, hu, h => by
    simp only [texts', List.nil_append, List.cons_append] at h
    injection h with h1 _
    exact absurd h1 (by decide)
  | t :: ts, u :: us, r, s, ht, hu, h => by
    simp only [shps, Bool.and_eq_true] at ht hu
    simp only [texts', List.cons_append, List.append_assoc] at h
    injection h with _ h
    obtain ⟨rfl, h1⟩ := text_inj t u _ _ ht.1 hu.1 h
    obtain ⟨rfl, h2⟩ := texts'_inj ts us r s ht.2 hu.2 h1
    exact ⟨rfl, h2⟩
end
theorem text_unlike {t u : Tm} (ht : shp t = true) (hu : shp u = true) (h : text t = text u) : t = u :=
  (text_inj t u [] [] ht hu (by simpa using h)).1
theorem text_ne (t : Tm) : text t ≠ [] := by cases t; simp [text]
end Tm
