/- Plain law of a binary heap, as a function from places to entries. -/
import Derived.Test.YtfolgjgkeheaoaaBase
namespace Go.Proofs.Ytfolgjgkeheaoaa
abbrev Ent := Int × Int
/-- Does a timer stand ahead of another one? -/
def lt (a b : Ent) : Bool := decide (a.2 < b.2) || (decide (a.2 = b.2) && decide (a.1 < b.1))
theorem lt_iff (a b : Ent) : lt a b = true ↔ a.2 < b.2 ∨ (a.2 = b.2 ∧ a.1 < b.1) := by simp [lt]
theorem lt_no (a b : Ent) : lt a b = false ↔ b.2 < a.2 ∨ (a.2 = b.2 ∧ b.1 ≤ a.1) := by
  rw [← Bool.not_eq_true, lt_iff]; omega
def sw (f : Nat → Ent) (i j : Nat) : Nat → Ent := fun k => if k = i then f j else if k = j then f i else f k
/-- The entry at j does not stand ahead of the one above it. -/
def Ord (f : Nat → Ent) (j : Nat) : Prop := lt (f j) (f ((j - 1) / 2)) = false
def Heap (n : Nat) (f : Nat → Ent) : Prop := ∀ j, 0 < j → j < n → Ord f j
/-- All is in order but what touches i. -/
def Up (n i0 : Nat) (f : Nat → Ent) (k : Nat) : Prop :=
  k ≤ i0 ∧ (∀ j, 0 < j → j < n → j ≠ k → (j - 1) / 2 ≠ k → Ord f j) ∧
  (∀ j, 0 < j → j < n → (j - 1) / 2 = k → 0 < k → lt (f j) (f ((k - 1) / 2)) = false) ∧
  (k ≠ i0 → ∀ j, 0 < j → j < n → (j - 1) / 2 = k → Ord f j)
def Dn (n : Nat) (f : Nat → Ent) (k : Nat) : Prop :=
  (∀ j, 0 < j → j < n → (j - 1) / 2 ≠ k → Ord f j) ∧
  (∀ j, 0 < j → j < n → (j - 1) / 2 = k → 0 < k → lt (f j) (f ((k - 1) / 2)) = false)

theorem up_step {n i0 k : Nat} {f : Nat → Ent} (h : Up n i0 f k) (h0 : 0 < k) (hk : k < n) (hl : lt (f k) (f ((k - 1) / 2)) = true) :
    Up n i0 (sw f k ((k - 1) / 2)) ((k - 1) / 2) := by
  obtain ⟨h1, h2, h3, h4⟩ := h
  have hp : (k - 1) / 2 < k := by omega
  generalize hp' : (k - 1) / 2 = p at *
  refine ⟨by omega, ?_, ?_, ?_⟩
  · intro j j0 jn jk jp
    unfold Ord sw
    by_cases e1 : j = k
    · subst e1; omega
    by_cases e2 : (j - 1) / 2 = k
    · have := h3 j j0 jn e2 h0
      rw [if_neg e1, if_neg jk, if_pos e2]; exact this
    · rw [if_neg e1, if_neg jk, if_neg e2, if_neg jp]; exact h2 j j0 jn e1 e2
  · intro j j0 jn jp p0
    have hpn : p < n := by omega
    have op : Ord f p := h2 p p0 hpn (by omega) (by omega)
    unfold Ord at op
    unfold sw
    rw [if_neg (show ¬ (p - 1) / 2 = k by omega), if_neg (show ¬ (p - 1) / 2 = p by omega)]
    by_cases e1 : j = k
    · rw [if_pos e1]; exact op
    · rw [if_neg e1, if_neg (show ¬ j = p by omega)]
      have oj : Ord f j := h2 j j0 jn e1 (by omega)
      unfold Ord at oj; rw [jp] at oj
      rw [lt_no] at *; omega
  · intro _ j j0 jn jp
    unfold Ord sw
    rw [jp, if_neg (show ¬ p = k by omega), if_pos rfl]
    by_cases e1 : j = k
    · rw [if_pos e1, lt_no]; rw [lt_iff] at hl; omega
    · rw [if_neg e1, if_neg (show ¬ j = p by omega)]
      have oj : Ord f j := h2 j j0 jn e1 (by omega)
      unfold Ord at oj; rw [jp] at oj
      rw [lt_no] at *; rw [lt_iff] at hl; omega

theorem up_done {n i0 k : Nat} {f : Nat → Ent} (h : Up n i0 f k) (hd : k = 0 ∨ lt (f k) (f ((k - 1) / 2)) = false) : Dn n f i0 := by
  obtain ⟨h1, h2, h3, h4⟩ := h
  by_cases e : k = i0
  · subst e
    refine ⟨fun j j0 jn jk => ?_, h3⟩
    by_cases e2 : j = k
    · subst e2
      rcases hd with hd | hd
      · omega
      · exact hd
    · exact h2 j j0 jn e2 jk
  · have all : ∀ j, 0 < j → j < n → Ord f j := by
      intro j j0 jn
      by_cases e2 : j = k
      · subst e2
        rcases hd with hd | hd
        · omega
        · exact hd
      by_cases e3 : (j - 1) / 2 = k
      · exact h4 e j j0 jn e3
      · exact h2 j j0 jn e2 e3
    refine ⟨fun j j0 jn _ => all j j0 jn, fun j j0 jn jp i00 => ?_⟩
    have o1 := all j j0 jn
    have o2 := all i0 i00 (by omega)
    unfold Ord at o1 o2
    rw [jp] at o1
    rw [lt_no] at *; omega

theorem dn_done {n k : Nat} {f : Nat → Ent} (h : Dn n f k) (hc : ∀ c, 0 < c → c < n → (c - 1) / 2 = k → lt (f c) (f k) = false) : Heap n f := by
  intro j j0 jn
  by_cases e : (j - 1) / 2 = k
  · unfold Ord; rw [e]; exact hc j j0 jn e
  · exact h.1 j j0 jn e

theorem dn_step {n k c : Nat} {f : Nat → Ent} (h : Dn n f k) (c0 : 0 < c) (cn : c < n) (cp : (c - 1) / 2 = k) (hl : lt (f c) (f k) = true)
    (hm : ∀ d, 0 < d → d < n → (d - 1) / 2 = k → lt (f d) (f c) = false) : Dn n (sw f k c) c := by
  obtain ⟨h1, h2⟩ := h
  have hkc : k < c := by omega
  refine ⟨?_, ?_⟩
  · intro j j0 jn jp
    unfold Ord sw
    by_cases e1 : j = k
    · subst e1
      rw [if_pos rfl, if_neg (show ¬ (j - 1) / 2 = j by omega), if_neg jp]
      exact h2 c c0 cn cp j0
    · rw [if_neg e1]
      by_cases e2 : (j - 1) / 2 = k
      · rw [if_pos e2]
        by_cases e3 : j = c
        · rw [if_pos e3, lt_no]; rw [lt_iff] at hl; omega
        · rw [if_neg e3]; exact hm j j0 jn e2
      · rw [if_neg (show ¬ j = c by intro e; subst e; omega), if_neg e2, if_neg jp]
        exact h1 j j0 jn e2
  · intro j j0 jn jp _
    unfold sw
    rw [cp, if_pos rfl, if_neg (show ¬ j = k by omega), if_neg (show ¬ j = c by omega)]
    have := h1 j j0 jn (by omega)
    unfold Ord at this; rw [jp] at this; exact this

/-- What stands in the heap. -/
def In (n : Nat) (f : Nat → Ent) (p : Ent) : Prop := ∃ k, k < n ∧ f k = p
/-- No number stands twice. -/
def Inj (n : Nat) (f : Nat → Ent) : Prop := ∀ a b, a < n → b < n → (f a).1 = (f b).1 → a = b
theorem in_sw {n i j : Nat} {f : Nat → Ent} (hi : i < n) (hj : j < n) (p : Ent) : In n (sw f i j) p ↔ In n f p := by
  unfold In sw
  constructor
  · rintro ⟨k, hk, e⟩
    split at e
    · exact ⟨j, hj, e⟩
    · split at e
      · exact ⟨i, hi, e⟩
      · exact ⟨k, hk, e⟩
  · rintro ⟨k, hk, e⟩
    by_cases e1 : k = i
    · subst e1
      refine ⟨j, hj, ?_⟩
      by_cases e2 : j = k
      · subst e2; rw [if_pos rfl]; exact e
      · rw [if_neg e2, if_pos rfl]; exact e
    by_cases e2 : k = j
    · subst e2; exact ⟨i, hi, by rw [if_pos rfl]; exact e⟩
    · exact ⟨k, hk, by rw [if_neg e1, if_neg e2]; exact e⟩
theorem inj_sw {n i j : Nat} {f : Nat → Ent} (hi : i < n) (hj : j < n) (h : Inj n f) : Inj n (sw f i j) := by
  intro a b ha hb e
  unfold sw at e
  split at e <;> split at e <;> (try split at e) <;> (try split at e) <;> first | omega | (have := h _ _ (by assumption) (by assumption) e; omega)
theorem heap_top {n : Nat} {f : Nat → Ent} (h : Heap n f) : ∀ k, k < n → lt (f k) (f 0) = false := by
  intro k
  induction k using Nat.strongRecOn with
  | _ k ih =>
    intro hk
    by_cases e : k = 0
    · subst e; rw [lt_no]; omega
    · have o := h k (by omega) hk
      have := ih ((k - 1) / 2) (by omega) (by omega)
      unfold Ord at o
      rw [lt_no] at *; omega
end Go.Proofs.Ytfolgjgkeheaoaa
