/- The walk of ClockJoin. -/
import Derived.Test.YthlggjchgngefaaParses
namespace Go.Proofs.Ythlggjchgngefaa
open Go.RowKit
attribute [local go_sem ↓] Go.wp_at_zero Go.wp_at_succ

set_option maxRecDepth 100000 in
set_option maxHeartbeats 4000000 in
theorem joins_walk (w : World) (y m d h mi s : Int) : Calls Try.prog 3 #[dv y m d h mi s] w fun e w' => e = .returned (.bool true) ∧ Below w.heap.size w w' := by
  obtain ⟨W, hW⟩ : ∃ W, W = w.alloc (.cells #[.int .i64 y, .int .i64 m, .int .i64 d, .int .i64 h, .int .i64 mi, .int .i64 s] 23) := ⟨_, rfl⟩
  obtain ⟨B, hB⟩ : ∃ B, B = w.heap.size := ⟨_, rfl⟩
  have C6 := six_cells w 23 (.int .i64 y) (.int .i64 m) (.int .i64 d) (.int .i64 h) (.int .i64 mi) (.int .i64 s) (Below.refl _ _)
  rw [← hW, ← hB] at C6
  have LW := hid (show Below w.heap.size w W by rw [hW]; exact (Below.refl _ _).alloc (Nat.le_refl _) _)
  have hBW : B < W.heap.size := by rw [hB, hW]; simp
  unfold dv
  go_enter Try.func3, Try.ntmps3
  go_wp2_with fail
  rw [← hW, ← hB]
  clear hW hB
  refine (join_c _ _ _ _ _ _ _).mono ?_
  rintro e w1 ⟨hA, hb1⟩
  obtain ⟨x, c, rfl, hA'⟩ := hA.form
  have HA := hid hA'
  have L1 := hid (Below.step LW.out hb1)
  have C1 := carry6 hb1 hBW C6
  have hB1 : B < w1.heap.size := Nat.lt_of_lt_of_le hBW hb1.size
  clear hA hA' hb1 C6 hBW
  obtain ⟨c0, c1, c2, c3, c4, c5⟩ := id C1
  have C1' := hid C1
  clear C1
  go_wp2_with fail
  refine (plain_c _ _ _ _ _ _ _).mono ?_
  rintro e w2 ⟨rfl, hb2⟩
  have L2 := hid (Below.step L1.out hb2)
  have C2 := hid (carry6 hb2 hB1 C1'.out)
  have hB2 : B < w2.heap.size := Nat.lt_of_lt_of_le hB1 hb2.size
  clear hb2 c0 c1 c2 c3 c4 c5 hB1
  go_wp2_with fail
  refine (refJoin_c _ _ _ _ _ _ _).mono ?_
  rintro e w3 ⟨hA, hb3⟩
  obtain rfl := hA.same HA.out
  have L3 := hid (Below.step L2.out hb3)
  have C3 := carry6 hb3 hB2 C2.out
  have hB3 : B < w3.heap.size := Nat.lt_of_lt_of_le hB2 hb3.size
  clear hA hb3 hB2
  have LD : Below w.heap.size w w3.drew := L3.out.drew
  have hBD : B < w3.drew.heap.size := hB3
  go_wp2_with fail
  go_region_held3 (fun w' => w'.cell? ⟨B, 0, none⟩ = some (.int .i64 y) ∧ w'.cell? ⟨B, 1, none⟩ = some (.int .i64 m) ∧ w'.cell? ⟨B, 2, none⟩ = some (.int .i64 d) ∧ w'.cell? ⟨B, 3, none⟩ = some (.int .i64 h) ∧ w'.cell? ⟨B, 4, none⟩ = some (.int .i64 mi) ∧ w'.cell? ⟨B, 5, none⟩ = some (.int .i64 s))
    (first | assumption | go_keep)
    (first
      | (go_at_call 11; refine (alive_c _).mono ?_; rintro e w4 ⟨rfl, hb⟩; have k4 := carry6 hb (by assumption) (by assumption); have hz4 : B < w4.heap.size := (Nat.lt_of_lt_of_le (by assumption) hb.size); have L4 : Below w.heap.size w w4 := Below.step (by assumption) hb; clear hb)
      | (go_at_call 12; refine (days_c _ _ _).mono ?_; rintro e w5 ⟨rfl, rfl⟩)
      | (go_at_call 13; refine (refDays_c _ _ _).mono ?_; rintro e w5 ⟨rfl, rfl⟩))
  go_wp2_with fail
  go_ret
  exact ⟨rfl, L4⟩
end Go.Proofs.Ythlggjchgngefaa
