/- Texts of dates go as their times. -/
import Derived.Test.YthlggjchgngefaaTextBack
namespace Go.Proofs.Ythlggjchgngefaa
open Go.RowKit

theorem less_nil (x : List UInt8) : Op.bytesLess x [] = false := by cases x <;> rfl
theorem less_append (x y : List UInt8) : ∀ a b : List UInt8, a.length = b.length → (Op.bytesLess (a ++ x) (b ++ y) = true ↔ Op.bytesLess a b = true ∨ a = b ∧ Op.bytesLess x y = true) := by
  intro a
  induction a with
  | nil =>
    intro b h
    have : b = [] := List.eq_nil_of_length_eq_zero h.symm
    subst this
    simp [Op.bytesLess]
  | cons c a ih =>
    intro b h
    cases b with
    | nil => simp at h
    | cons d b =>
      have := ih b (by simpa using h)
      simp only [List.cons_append, Op.bytesLess, Bool.or_eq_true, Bool.and_eq_true, decide_eq_true_eq, beq_iff_eq, List.cons.injEq]
      rw [this]
      constructor
      · rintro (h1 | ⟨h1, h2 | ⟨h2, h3⟩⟩)
        · exact Or.inl (Or.inl h1)
        · exact Or.inl (Or.inr ⟨h1, h2⟩)
        · exact Or.inr ⟨⟨h1, h2⟩, h3⟩
      · rintro ((h1 | ⟨h1, h2⟩) | ⟨⟨h1, h2⟩, h3⟩)
        · exact Or.inl h1
        · exact Or.inr ⟨h1, Or.inl h2⟩
        · exact Or.inr ⟨h1, Or.inr ⟨h2, h3⟩⟩
theorem less_one (a b : UInt8) : Op.bytesLess [a] [b] = true ↔ a.toNat < b.toNat := by
  simp [Op.bytesLess, UInt8.lt_iff_toNat_lt]
theorem less_self : ∀ a : List UInt8, Op.bytesLess a a = false := by
  intro a
  induction a with
  | nil => rfl
  | cons c a ih => simp [Op.bytesLess, ih]
theorem less_sep (c : UInt8) (x y : List UInt8) : Op.bytesLess ([c] ++ x) ([c] ++ y) = true ↔ Op.bytesLess x y = true := by
  rw [less_append x y [c] [c] rfl]
  simp [less_self]
theorem less_digs (k : Nat) : ∀ n m : Int, 0 ≤ n → n < 10 ^ k → 0 ≤ m → m < 10 ^ k → (Op.bytesLess (Cal.digs k n) (Cal.digs k m) = true ↔ n < m) := by
  induction k with
  | zero =>
    intro n m h0 h1 h2 h3
    simp at h1 h3
    simp [Cal.digs, Op.bytesLess]; omega
  | succ k ih =>
    intro n m h0 h1 h2 h3
    have hp : (10 : Int) ^ (k + 1) = 10 ^ k * 10 := Int.pow_succ 10 k
    rw [hp] at h1 h3
    have h10 : (0 : Int) < 10 ^ k := Int.pow_pos (by omega)
    rw [Cal.digs, Cal.digs, less_append _ _ _ _ (by rw [Cal.digs_length, Cal.digs_length]), ih _ _ (by omega) (by omega) (by omega) (by omega), less_one, UInt8.toNat_ofNat', UInt8.toNat_ofNat']
    constructor
    · rintro (h | ⟨h4, h5⟩)
      · omega
      · have := Cal.digs_inj (k := k) (a := n / 10) (b := m / 10) (by omega) (by omega) (by omega) (by omega) h4
        omega
    · intro h
      by_cases e : n / 10 < m / 10
      · exact Or.inl e
      · have : n / 10 = m / 10 := by omega
        exact Or.inr ⟨by rw [this], by omega⟩
theorem less_text {t t' y m d h mi s y' m' d' h' mi' s' : Int} (a : DateOf t y m d h mi s) (b : DateOf t' y' m' d' h' mi' s') : Op.bytesLess (text y m d h mi s) (text y' m' d' h' mi' s') = true ↔ t < t' := by
  obtain ⟨a1, a2, a3⟩ := a
  obtain ⟨b1, b2, b3⟩ := b
  have hl := Cal.dn_lt a1 b1
  have hinj := fun e => Cal.dn_inj a1 b1 e
  obtain ⟨g1, g2, g3, g4⟩ := a1.in_
  obtain ⟨k1, k2, k3, k4⟩ := b1.in_
  obtain ⟨u1, u2⟩ := a1
  obtain ⟨u3, u4⟩ := b1
  obtain ⟨q1, q2⟩ := Cal.dim_range y m
  obtain ⟨q3, q4⟩ := Cal.dim_range y' m'
  obtain ⟨p1, p2, p3, p4, p5, p6⟩ := a2
  obtain ⟨r1, r2, r3, r4, r5, r6⟩ := b2
  have D := fun (k : Nat) (n m : Int) => (show (Cal.digs k n).length = (Cal.digs k m).length by rw [Cal.digs_length, Cal.digs_length])
  have I := fun (k : Nat) (n m : Int) (h0 : 0 ≤ n) (h1 : n < 10 ^ k) (h2 : 0 ≤ m) (h3 : m < 10 ^ k) => (⟨fun e => Cal.digs_inj h0 h1 h2 h3 e, fun e => by rw [e]⟩ : Cal.digs k n = Cal.digs k m ↔ n = m)
  unfold text
  simp only [List.append_assoc]
  rw [less_append _ _ _ _ (D 4 y y'), less_sep, less_append _ _ _ _ (D 2 m m'), less_sep, less_append _ _ _ _ (D 2 d d'), less_sep, less_append _ _ _ _ (D 2 h h'), less_sep, less_append _ _ _ _ (D 2 mi mi'), less_sep]
  rw [less_digs 4 y y' (by omega) (by omega) (by omega) (by omega), less_digs 2 m m' (by omega) (by omega) (by omega) (by omega), less_digs 2 d d' (by omega) (by omega) (by omega) (by omega), less_digs 2 h h' (by omega) (by omega) (by omega) (by omega), less_digs 2 mi mi' (by omega) (by omega) (by omega) (by omega), less_digs 2 s s' (by omega) (by omega) (by omega) (by omega)]
  rw [I 4 y y' (by omega) (by omega) (by omega) (by omega), I 2 m m' (by omega) (by omega) (by omega) (by omega), I 2 d d' (by omega) (by omega) (by omega) (by omega), I 2 h h' (by omega) (by omega) (by omega) (by omega), I 2 mi mi' (by omega) (by omega) (by omega) (by omega)]
  clear D I
  subst a3 b3
  unfold Cal.tn
  by_cases e : y = y' ∧ m = m' ∧ d = d'
  · obtain ⟨rfl, rfl, rfl⟩ := e
    omega
  · by_cases l : Cal.dn y m d < Cal.dn y' m' d'
    · have := hl.1 l
      constructor
      · intro _; omega
      · intro _; omega
    · have hl' := fun h => l (hl.2 h)
      have hne : Cal.dn y m d ≠ Cal.dn y' m' d' := fun h => e (hinj h)
      constructor
      · intro hh; exfalso; apply hl'; omega
      · intro hh; omega
end Go.Proofs.Ythlggjchgngefaa
