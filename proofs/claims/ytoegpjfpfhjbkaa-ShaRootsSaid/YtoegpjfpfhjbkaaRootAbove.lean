/- The document's 'above' on numbers of ten digits. -/
import Derived.Test.YtoegpjfpfhjbkaaRootPlain
import Derived.Lib.SlBytesConst
import Derived.Deep.RegionHeld3
namespace Go.Proofs.Ytoegpjfpfhjbkaa
open Go.RowKit Go.ChangeMaps

theorem abv_succ (a b : Nat → Nat) (k : Nat) : abv a b (k + 1) = if a k = b k then abv a b k else decide (b k < a k) := rfl
def dg (a : Nat → Nat) : Nat → Value := fun j => .int .u64 (a j)
/-- The value of ten digits. -/
def W10 (a : Nat → Nat) : Nat := V a 10
/-- Ten digits. -/
def Dg (xs : Array Value) (a : Nat → Nat) : Prop := xs.size = 10 ∧ (∀ j, j < 10 → xs[j]? = some (dg a j)) ∧ ∀ j, j < 10 → a j < 65536
set_option maxRecDepth 100000 in
set_option maxHeartbeats 2000000 in
theorem above_c (w : World) {xs ys : Array Value} {a b : Nat → Nat} (hx : Dg xs a) (hy : Dg ys b) :
    Calls Try.prog 36 #[.agg xs, .agg ys] w fun e w' => e = .returned (.bool (decide (W10 b < W10 a))) ∧ Below w.heap.size w w' := by
  obtain ⟨hx1, hx2, hx3⟩ := hx
  obtain ⟨hy1, hy2, hy3⟩ := hy
  rw [show decide (W10 b < W10 a) = abv a b 10 from (abv_eq a b 10 hx3 hy3).symm]
  obtain ⟨w1, hw1⟩ : ∃ w1, w1 = (w.alloc (.cells xs 66)).alloc (.cells ys 66) := ⟨_, rfl⟩
  have FA := hid (show Fn w1 w.heap.size 66 10 (dg a) by rw [hw1]; exact (Fn.new w xs _ hx1 hx2).alloc _)
  have FB := hid (show Fn w1 (w.heap.size + 1) 66 10 (dg b) by
    rw [hw1]; have := Fn.new (w.alloc (.cells xs 66)) ys 66 hy1 hy2; simpa using this)
  have L0 := hid (show Below w.heap.size w w1 by rw [hw1]; exact ((Below.refl w.heap.size w).alloc (Nat.le_refl _) _).alloc (by simp) _)
  clear hx1 hx2 hx3 hy1 hy2 hy3
  go_enter Try.func36, Try.ntmps36
  go_wp2
  rw [← hw1]
  clear hw1
  go_loopg [5] 11 (fun g v5 wr => ∃ k : Nat, v5 = .int .i64 ((k : Int) - 1) ∧ g = k + 1 ∧ k ≤ 10 ∧ abv a b 10 = abv a b k ∧ Hid (Fn wr w.heap.size 66 10 (dg a)) ∧ Hid (Fn wr (w.heap.size + 1) 66 10 (dg b)) ∧ Hid (Below w.heap.size w wr))
  case atStart => exact ⟨10, rfl, rfl, by omega, rfl, FA, FB, L0⟩
  case round =>
    obtain ⟨k, rfl, hg, hk, hab, F1, F2, L1⟩ := hrel
    have HAB := hid hab
    clear hab
    cases k with
    | zero =>
      go_wp2
      go_ret
      exact ⟨by rw [HAB.out]; rfl, L1.out⟩
    | succ k =>
      rw [show ((k + 1 : Nat) : Int) - 1 = (k : Int) by omega]
      have c0 : wr.cell? ⟨w.heap.size, k, none⟩ = some (.int .u64 (a k : Int)) := F1.out.cell (by omega)
      have c1 : wr.cell? ⟨w.heap.size + 1, k, none⟩ = some (.int .u64 (b k : Int)) := F2.out.cell (by omega)
      have g0 : (0 : Int) ≤ (k : Int) := Int.natCast_nonneg _
      have g1 : (k : Int) < 10 := by omega
      by_cases e : a k = b k
      · rw [← e] at c1
        go_upto_region 4 with fail
        go_region
        go_wp2
        go_roundg (k + 1)
        case measure => omega
        case rel => exact ⟨k, by go_num, rfl, by omega, by rw [HAB.out, abv_succ, if_pos e], hid (F1.out.of_block rfl), hid (F2.out.of_block rfl), hid L1.out.drew⟩
      · have e2 : ¬ (a k : Int) = (b k : Int) := by omega
        go_upto_region 4 with fail
        go_region
        go_upto_region 5 with fail
        go_region
        go_wp2
        go_ret
        refine ⟨?_, L1.out.drew.drew⟩
        exact ret_bool (by rw [HAB.out, abv_succ, if_neg e])
end Go.Proofs.Ytoegpjfpfhjbkaa
