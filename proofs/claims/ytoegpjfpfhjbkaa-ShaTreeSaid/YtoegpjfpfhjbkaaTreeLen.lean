/- How many bits a small number has; the greatest power of two below a number. -/
import Derived.Test.YtoegpjfpfhjbkaaRefSum
import Derived.Test.YtoegpjfpfhjbkaaRel
import Derived.Test.YtoegpjfpfhjbkaaShelf
namespace Go.Proofs.Ytoegpjfpfhjbkaa
open Go.RowKit Go.ChangeMaps

/-- The greatest power of two below m, for m from 2 to 64. -/
def half (m : Nat) : Nat := if m ≤ 2 then 1 else if m ≤ 4 then 2 else if m ≤ 8 then 4 else if m ≤ 16 then 8 else if m ≤ 32 then 16 else 32
def lenN (x : Nat) : Nat := if x ≤ 1 then 1 else if x ≤ 3 then 2 else if x ≤ 7 then 3 else if x ≤ 15 then 4 else if x ≤ 31 then 5 else 6
theorem half_lt {m : Nat} (h : 2 ≤ m) : 0 < half m ∧ half m < m := by unfold half; split <;> (try split) <;> (try split) <;> (try split) <;> (try split) <;> omega
theorem half_step {n m : Nat} (hn : n = 1 ∨ n = 2 ∨ n = 4 ∨ n = 8 ∨ n = 16 ∨ n = 32) (hm : m ≤ 40) (h2 : 2 ≤ m) (h : n ≤ half m) : (2 * n < m → 2 * n ≤ half m ∧ 2 * n ≤ 32) ∧ (¬ 2 * n < m → n = half m) := by
  unfold half at *
  rcases hn with rfl | rfl | rfl | rfl | rfl | rfl <;> (repeat' split at h) <;> (repeat' split) <;> (constructor <;> intros <;> omega)
theorem half_pow {m : Nat} (h2 : 2 ≤ m) : (2 : Int) ^ (lenN (m - 1) - 1) = (half m : Int) ∧ 1 ≤ lenN (m - 1) ∧ lenN (m - 1) ≤ 6 := by
  unfold half lenN
  (repeat' split) <;> first | omega | (refine ⟨?_, ?_, ?_⟩ <;> first | rfl | omega)
theorem bitLen_small : ∀ x : Fin 40, x.val = 0 ∨ Lib.bitLen x.val = lenN x.val := by decide +kernel
theorem len_c (w : World) (x : Nat) (h1 : 1 ≤ x) (h2 : x < 40) : Calls Try.prog 28 #[.int .u64 x] w fun e w' => e = .returned (.int .i64 (lenN x)) ∧ w = w' := by
  refine (Try.bits_Len (x : Int) w (by omega) (by omega)).mono ?_
  rintro e w' ⟨rfl, rfl⟩
  have hb := (bitLen_small ⟨x, h2⟩).resolve_left (by simp only; omega)
  simp only at hb
  refine ⟨?_, rfl⟩
  rw [show ((x : Int)).toNat = x from rfl, hb]
end Go.Proofs.Ytoegpjfpfhjbkaa
