/- Digits of numbers as bytes, and the text of a date. -/
import Derived.Test.YthlggjchgngefaaCal
namespace Go.Proofs.Ythlggjchgngefaa.Cal

/-- The last k digits of a number. -/
def digs : Nat → Int → List UInt8
  | 0, _ => []
  | k + 1, n => digs k (n / 10) ++ [UInt8.ofNat (48 + n % 10).toNat]
theorem digs_length (k : Nat) : ∀ n, (digs k n).length = k := by
  induction k with
  | zero => intro n; rfl
  | succ k ih => intro n; simp [digs, ih]
/-- The number of digits; none: they are not digits. -/
def num : List UInt8 → Int → Option Int
  | [], n => some n
  | c :: l, n => if 48 ≤ c.toNat ∧ c.toNat ≤ 57 then num l (n * 10 + ((c.toNat : Int) - 48)) else none
theorem num_append (a b : List UInt8) : ∀ n, num (a ++ b) n = (num a n).bind (num b) := by
  induction a with
  | nil => intro n; rfl
  | cons c a ih =>
    intro n
    simp only [List.cons_append, num]
    split
    · exact ih _
    · rfl
theorem num_digs (k : Nat) : ∀ n x, 0 ≤ n → n < 10 ^ k → num (digs k n) x = some (x * 10 ^ k + n) := by
  induction k with
  | zero => intro n x h0 h1; simp at h1; have : n = 0 := by omega
            subst this; simp [digs, num]
  | succ k ih =>
    intro n x h0 h1
    have hp : (10 : Int) ^ (k + 1) = 10 ^ k * 10 := Int.pow_succ 10 k
    rw [hp] at h1
    rw [digs, num_append, ih (n / 10) x (by omega) (by omega)]
    have hc : (UInt8.ofNat (48 + n % 10).toNat).toNat = (48 + n % 10).toNat := by
      rw [UInt8.toNat_ofNat']; omega
    show num [_] _ = _
    simp only [num, hc]
    rw [if_pos (by omega), hp]
    have e : x * (10 ^ k * 10) = x * 10 ^ k * 10 := by rw [Int.mul_assoc]
    congr 1
    rw [e]; omega
theorem num_lo (l : List UInt8) : ∀ n x, 0 ≤ n → num l n = some x → 0 ≤ x := by
  induction l with
  | nil => intro n x h0 h; simp [num] at h; omega
  | cons c l ih =>
    intro n x h0 h
    simp only [num] at h
    split at h
    · exact ih _ _ (by omega) h
    · cases h
theorem num_hi (l : List UInt8) : ∀ n x, num l n = some x → x < (n + 1) * 10 ^ l.length := by
  induction l with
  | nil => intro n x h; simp [num] at h; simp; omega
  | cons c l ih =>
    intro n x h
    simp only [num] at h
    split at h
    · rename_i hc
      have := ih _ _ h
      have hp : (10 : Int) ^ (l.length + 1) = 10 ^ l.length * 10 := Int.pow_succ 10 _
      rw [List.length_cons, hp]
      have h10 : (0 : Int) < 10 ^ l.length := Int.pow_pos (by omega)
      have h2 : (n * 10 + ((c.toNat : Int) - 48) + 1) * 10 ^ l.length ≤ ((n + 1) * 10) * 10 ^ l.length := Int.mul_le_mul_of_nonneg_right (by omega) (Int.le_of_lt h10)
      have h3 : ((n + 1) * 10) * 10 ^ l.length = (n + 1) * (10 ^ l.length * 10) := by rw [Int.mul_assoc, Int.mul_comm 10]
      omega
    · cases h
/-- Digits are told by their number. -/
theorem digs_num (l : List UInt8) : ∀ n x, 0 ≤ n → num l n = some x → digs l.length x = l := by
  intro n x h0
  -- from the back
  have key : ∀ k (l : List UInt8), l.length = k → ∀ n x, 0 ≤ n → num l n = some x → digs k x = l ∧ x / 10 ^ k = n := by
    intro k
    induction k with
    | zero =>
      intro l hl n x h0 h
      have : l = [] := List.eq_nil_of_length_eq_zero hl
      subst this
      simp [num] at h
      subst h
      simp [digs]
    | succ k ih =>
      intro l hl n x h0 h
      obtain ⟨a, c, rfl⟩ : ∃ a c, l = a ++ [c] := ⟨l.dropLast, l.getLast (by intro e; subst e; simp at hl), (List.dropLast_concat_getLast _).symm⟩
      have ha : a.length = k := by simpa using hl
      rw [num_append] at h
      cases hq : num a n with
      | none => rw [hq] at h; cases h
      | some y =>
        rw [hq] at h
        have h' : num [c] y = some x := h
        simp only [num] at h'
        split at h'
        · rename_i hc
          have hx : x = y * 10 + ((c.toNat : Int) - 48) := (Option.some.inj h').symm
          obtain ⟨i1, i2⟩ := ih a ha n y h0 hq
          have hy := num_lo a n y h0 hq
          have e1 : x / 10 = y := by omega
          have e2 : (48 + x % 10).toNat = c.toNat := by omega
          refine ⟨?_, ?_⟩
          · rw [digs, e1, i1, e2, UInt8.ofNat_toNat]
          · rw [Int.pow_succ, Int.mul_comm, ← Int.ediv_ediv_of_nonneg (by omega), e1, i2]
        · cases h'
  exact fun h => (key l.length l rfl n x h0 h).1
theorem digs_inj {k : Nat} {a b : Int} (ha : 0 ≤ a) (ha' : a < 10 ^ k) (hb : 0 ≤ b) (hb' : b < 10 ^ k) (h : digs k a = digs k b) : a = b := by
  have h1 := num_digs k a 0 ha ha'
  have h2 := num_digs k b 0 hb hb'
  rw [h, h2] at h1
  simpa using h1.symm
end Go.Proofs.Ythlggjchgngefaa.Cal
