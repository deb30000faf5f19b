/- Numbers of ten digits by 65536: their value, which one is above, the product; the roots' first bits; the first primes. No condition. -/
import Derived.Test.YtoegpjfpfhjbkaaShaSteps
namespace Go.Proofs.Ytoegpjfpfhjbkaa

/-- The value of the first k digits. -/
def V (a : Nat → Nat) : Nat → Nat
  | 0 => 0
  | k + 1 => V a k + a k * 65536 ^ k
def upd (a : Nat → Nat) (i v : Nat) : Nat → Nat := fun j => if j = i then v else a j
/-- Which is above, from the digit k - 1 down. -/
def abv (a b : Nat → Nat) : Nat → Bool
  | 0 => false
  | k + 1 => if a k = b k then abv a b k else decide (b k < a k)

theorem V_congr {a b : Nat → Nat} : ∀ k, (∀ j, j < k → a j = b j) → V a k = V b k
  | 0, _ => rfl
  | k + 1, h => by
    show V a k + a k * _ = V b k + b k * _
    rw [V_congr k (fun j hj => h j (by omega)), h k (by omega)]
theorem V_lt {a : Nat → Nat} : ∀ k, (∀ j, j < k → a j < 65536) → V a k < 65536 ^ k
  | 0, _ => Nat.one_pos
  | k + 1, h => by
    have h1 := V_lt k (fun j hj => h j (by omega))
    have h2 := h k (by omega)
    show V a k + a k * 65536 ^ k < _
    rw [Nat.pow_succ]
    have : a k * 65536 ^ k ≤ 65535 * 65536 ^ k := Nat.mul_le_mul_right _ (by omega)
    omega
theorem V_upd (a : Nat → Nat) (i v : Nat) : ∀ n, i < n → V (upd a i v) n + a i * 65536 ^ i = V a n + v * 65536 ^ i
  | 0, h => by omega
  | n + 1, h => by
    show V (upd a i v) n + upd a i v n * 65536 ^ n + _ = V a n + a n * 65536 ^ n + _
    by_cases e : i = n
    · subst e
      rw [V_congr (b := a) i (fun j hj => by unfold upd; rw [if_neg (by omega)])]
      unfold upd
      rw [if_pos rfl]
      omega
    · have := V_upd a i v n (by omega)
      have e2 : upd a i v n = a n := by unfold upd; rw [if_neg (by omega)]
      rw [e2]; omega
theorem V_split (b : Nat → Nat) (m : Nat) : ∀ k, ∃ R, V b (m + k) = V b m + 65536 ^ m * R
  | 0 => ⟨0, rfl⟩
  | k + 1 => by
    obtain ⟨R, h⟩ := V_split b m k
    refine ⟨R + b (m + k) * 65536 ^ k, ?_⟩
    show V b (m + k) + b (m + k) * 65536 ^ (m + k) = _
    rw [h, Nat.pow_add, Nat.mul_add, Nat.add_assoc]
    congr 1
    rw [← Nat.mul_assoc, ← Nat.mul_assoc, Nat.mul_comm (b (m + k)) (65536 ^ m), Nat.mul_assoc]
theorem abv_eq (a b : Nat → Nat) : ∀ k, (∀ j, j < k → a j < 65536) → (∀ j, j < k → b j < 65536) → abv a b k = decide (V b k < V a k)
  | 0, _, _ => by simp [abv, V]
  | k + 1, ha, hb => by
    have iha := V_lt k (fun j hj => ha j (by omega))
    have ihb := V_lt k (fun j hj => hb j (by omega))
    have ih := abv_eq a b k (fun j hj => ha j (by omega)) (fun j hj => hb j (by omega))
    unfold abv
    show _ = decide (V b k + b k * 65536 ^ k < V a k + a k * 65536 ^ k)
    by_cases e : a k = b k
    · rw [if_pos e, ih, e]
      congr 1
      simp only [Nat.add_lt_add_iff_right]
    · rw [if_neg e]
      generalize 65536 ^ k = P at *
      by_cases l : b k < a k
      · have : (b k + 1) * P ≤ a k * P := Nat.mul_le_mul_right _ l
        rw [Nat.add_mul] at this
        rw [decide_eq_true l, decide_eq_true (by omega)]
      · have : (a k + 1) * P ≤ b k * P := Nat.mul_le_mul_right _ (by omega)
        rw [Nat.add_mul] at this
        rw [decide_eq_false l, decide_eq_false (by omega)]

/-- Where the product stands within the row i at its place k: the digits o, the carry c. -/
def Prod (a b o : Nat → Nat) (i k c : Nat) : Prop :=
  (∃ e, V o 10 + c * 65536 ^ (i + k) + e * 65536 ^ 10 = V a i * V b 10 + a i * 65536 ^ i * V b k) ∧ c < 65536 ∧ ∀ j, j < 10 → o j < 65536
theorem Prod.step {a b o : Nat → Nat} {i k c : Nat} (h : Prod a b o i k c) (hk : i + k < 10) (ha : a i < 65536) (hb : b k < 65536) :
    Prod a b (upd o (i + k) ((c + o (i + k) + a i * b k) % 65536)) i (k + 1) ((c + o (i + k) + a i * b k) / 65536) ∧ c + o (i + k) + a i * b k < 4294967296 := by
  obtain ⟨⟨e, h1⟩, h2, h3⟩ := h
  have h4 := h3 (i + k) hk
  have h5 : a i * b k ≤ 65535 * 65535 := Nat.mul_le_mul (by omega) (by omega)
  obtain ⟨s, hs⟩ : ∃ s, s = c + o (i + k) + a i * b k := ⟨_, rfl⟩
  rw [← hs]
  refine ⟨⟨⟨e, ?_⟩, by omega, fun j hj => ?_⟩, by omega⟩
  · have hv := V_upd o (i + k) (s % 65536) 10 hk
    show _ = V a i * V b 10 + a i * 65536 ^ i * (V b k + b k * 65536 ^ k)
    have e1 : a i * 65536 ^ i * (b k * 65536 ^ k) = a i * b k * 65536 ^ (i + k) := by
      rw [Nat.pow_add]; ac_rfl
    rw [Nat.mul_add, e1, ← Nat.add_assoc (V a i * V b 10), ← h1, ← Nat.add_assoc i k 1, Nat.pow_succ]
    generalize 65536 ^ (i + k) = P at *
    generalize 65536 ^ 10 = Q at *
    have hd : s % 65536 * P + s / 65536 * (P * 65536) = s * P := by
      rw [Nat.mul_comm P, ← Nat.mul_assoc, ← Nat.add_mul]
      congr 1; omega
    have hs' : s * P = c * P + o (i + k) * P + a i * b k * P := by rw [hs, Nat.add_mul, Nat.add_mul]
    omega
  · unfold upd
    split
    · exact Nat.mod_lt _ (by decide)
    · exact h3 j hj
theorem Prod.first {a b o : Nat → Nat} {i : Nat} {e : Nat} (h : V o 10 + e * 65536 ^ 10 = V a i * V b 10) (ho : ∀ j, j < 10 → o j < 65536) : Prod a b o i 0 0 :=
  ⟨⟨e, by rw [Nat.zero_mul, Nat.add_zero, h, show V b 0 = 0 from rfl, Nat.mul_zero, Nat.add_zero]⟩, by decide, ho⟩
theorem Prod.last {a b o : Nat → Nat} {i k c : Nat} (h : Prod a b o i k c) (hk : i + k = 10) : ∃ e, V o 10 + e * 65536 ^ 10 = V a (i + 1) * V b 10 := by
  obtain ⟨⟨e, h1⟩, _, _⟩ := h
  obtain ⟨R, hR⟩ := V_split b k i
  rw [hk] at h1
  rw [show k + i = 10 by omega] at hR
  refine ⟨c + e + a i * R, ?_⟩
  show _ = (V a i + a i * 65536 ^ i) * V b 10
  have e1 : a i * 65536 ^ i * (65536 ^ k * R) = a i * R * 65536 ^ 10 := by
    rw [← hk, Nat.pow_add]; ac_rfl
  have e2 : a i * 65536 ^ i * V b 10 = a i * 65536 ^ i * V b k + a i * R * 65536 ^ 10 := by rw [hR, Nat.mul_add, e1]
  rw [Nat.add_mul (V a i), e2, ← Nat.add_assoc (V a i * V b 10), ← h1, Nat.add_mul, Nat.add_mul]
  generalize 65536 ^ 10 = Q
  omega
theorem Prod.done {a b o : Nat → Nat} {e : Nat} (h : V o 10 + e * 65536 ^ 10 = V a 10 * V b 10) (hs : V a 10 * V b 10 < 65536 ^ 10) : V o 10 = V a 10 * V b 10 := by
  have : e = 0 := by
    generalize 65536 ^ 10 = Q at *
    by_cases e0 : e = 0
    · exact e0
    · have : 1 * Q ≤ e * Q := Nat.mul_le_mul_right _ (by omega)
      omega
  subst this
  rw [Nat.zero_mul, Nat.add_zero] at h; exact h

/-- The greatest number below 2^s, beyond x, that f lets in, if f lets in all below it. -/
def climb (f : Nat → Bool) : Nat → Nat → Nat
  | 0, x => x
  | s + 1, x => climb f s (if f (x + 2 ^ s) then x + 2 ^ s else x)
def fits (p : Nat) (cube : Bool) (y : Nat) : Bool := if cube then decide (y * y * y ≤ p * 65536 ^ 6) else decide (y * y ≤ p * 65536 ^ 4)
def rootN (p : Nat) (cube : Bool) : Nat := climb (fits p cube) 37 0

def P64 : List Nat := [2, 3, 5, 7, 11, 13, 17, 19, 23, 29, 31, 37, 41, 43, 47, 53, 59, 61, 67, 71, 73, 79, 83, 89, 97, 101, 103, 107, 109, 113, 127, 131, 137, 139, 149, 151, 157, 163, 167, 173, 179, 181, 191, 193, 197, 199, 211, 223, 227, 229, 233, 239, 241, 251, 257, 263, 269, 271, 277, 281, 283, 293, 307, 311]
/-- The primes below k + 2. -/
def upto (k : Nat) : List Nat := P64.filter (· < k + 2)
theorem upto_next : ∀ k, k < 310 → upto (k + 1) = if (upto k).all (fun q => (k + 2) % q != 0) then upto k ++ [k + 2] else upto k := by decide +kernel
theorem upto_long : ∀ k, k < 310 → (upto k).length < 64 := by decide +kernel
theorem upto_all : upto 310 = P64 := by decide +kernel
theorem upto_small : ∀ k, k < 311 → ∀ q ∈ upto k, 2 ≤ q ∧ q < 400 := by decide +kernel
theorem roots_cube : ∀ i, i < 64 → rootN (P64.getD i 0) true % 4294967296 = (kAt i).toNat := by decide +kernel
theorem roots_square : ∀ i, i < 8 → rootN (P64.getD i 0) false % 4294967296 = (start.get i).toNat := by decide +kernel
end Go.Proofs.Ytoegpjfpfhjbkaa
