/- How many days a month has: the program and the document. -/
import Derived.Test.YthlggjchgngefaaBase
import Derived.Test.YthlggjchgngefaaRows
import Derived.Test.YthlggjchgngefaaTxt
import Derived.BigQuiet
import Derived.Deep.LoopGhost
namespace Go.Proofs.Ythlggjchgngefaa
open Go.RowKit

theorem leap1 {y : Int} (h : y % 400 = 0) : Cal.leap y = true := by simp [Cal.leap, h]
theorem leap2 {y : Int} (h : ¬ y % 400 = 0) (h' : y % 4 = 0) : Cal.leap y = (y % 400 == 0 || y % 100 != 0) := by
  simp [Cal.leap, h, h', bne]
  by_cases e : y % 100 = 0 <;> simp [e, h]
theorem leap3 {y : Int} (h : ¬ y % 4 = 0) : Cal.leap y = (y % 400 == 0) := by
  simp [Cal.leap, h]
  by_cases e : y % 400 = 0 <;> simp [e]

set_option maxRecDepth 100000 in
set_option maxHeartbeats 1000000 in
theorem leap_c (w : World) (y : Int) (h0 : 0 ≤ y) (h1 : y ≤ 10000) : Calls Try.prog 27 #[.int .i64 y] w fun e w' => e = .returned (.bool (Cal.leap y)) ∧ w = w' := by
  go_enter Try.func27, Try.ntmps27
  go_wp2
  · go_ret
    exact ⟨ret_bool (leap1 ‹_›).symm, rfl⟩
  · go_ret
    exact ⟨ret_bool (leap2 ‹_› ‹_›).symm, rfl⟩
  · go_ret
    exact ⟨ret_bool (leap3 ‹_›).symm, rfl⟩

theorem dimv {y : Int} (h1 : 2000 ≤ y) (h2 : y ≤ 2199) (m : Int) : Cal.dim y m = if m = 2 then Cal.feb y else if m = 4 ∨ m = 6 ∨ m = 9 ∨ m = 11 then 30 else if 1 ≤ m ∧ m ≤ 12 then 31 else 0 := by
  unfold Cal.dim; rw [if_neg (by omega)]
theorem months (m : Int) : (m = 1 ∨ m = 3 ∨ m = 5 ∨ m = 7 ∨ m = 8 ∨ m = 10 ∨ m = 12) ∨ (m = 4 ∨ m = 6 ∨ m = 9 ∨ m = 11) ∨ m = 2 ∨ (m < 1 ∨ 12 < m) := by omega
set_option maxRecDepth 100000 in
set_option maxHeartbeats 4000000 in
theorem days_c (w : World) (y m : Int) : Calls Try.prog 12 #[.int .i64 y, .int .i64 m] w fun e w' => e = .returned (.int .i64 (Cal.dim y m)) ∧ w = w' := by
  by_cases h : y < 2000 ∨ 2199 < y
  · rcases h with h | h
    · go_enter Try.func12, Try.ntmps12
      go_wp2
      go_ret
      exact ⟨ret_int (by rw [Cal.dim_out (Or.inl h)]), rfl⟩
    · have h' : ¬ y < 2000 := by omega
      go_enter Try.func12, Try.ntmps12
      go_wp2
      go_ret
      exact ⟨ret_int (by rw [Cal.dim_out (Or.inr h)]), rfl⟩
  · have h1 : 2000 ≤ y := by omega
    have h2 : y ≤ 2199 := by omega
    clear h
    rcases months m with h | h | h | h
    · rcases h with rfl | rfl | rfl | rfl | rfl | rfl | rfl
      all_goals
        go_enter Try.func12, Try.ntmps12
        go_wp2
        go_ret
        exact ⟨ret_int (by rw [dimv h1 h2]; rfl), rfl⟩
    · rcases h with rfl | rfl | rfl | rfl
      all_goals
        go_enter Try.func12, Try.ntmps12
        go_wp2
        go_ret
        exact ⟨ret_int (by rw [dimv h1 h2]; rfl), rfl⟩
    · subst h
      by_cases hl : Cal.leap y = true
      · go_enter Try.func12, Try.ntmps12
        go_wp2_with (go_at_call 27; refine (leap_c _ _ (by omega) (by omega)).mono ?_; rintro e w' ⟨rfl, rfl⟩)
        go_ret
        exact ⟨ret_int (by rw [dimv h1 h2, if_pos rfl, Cal.feb, if_pos hl]), rfl⟩
      · have hl' : Cal.leap y = false := by simpa using hl
        clear hl
        go_enter Try.func12, Try.ntmps12
        go_wp2_with (go_at_call 27; refine (leap_c _ _ (by omega) (by omega)).mono ?_; rintro e w' ⟨rfl, rfl⟩)
        go_ret
        exact ⟨ret_int (by rw [dimv h1 h2, if_pos rfl, Cal.feb, hl', if_neg (by simp)]), rfl⟩
    · have e1 : (m == 1) = false := beq_eq_false_iff_ne.2 (by omega)
      have e2 : (m == 2) = false := beq_eq_false_iff_ne.2 (by omega)
      have e3 : (m == 3) = false := beq_eq_false_iff_ne.2 (by omega)
      have e4 : (m == 4) = false := beq_eq_false_iff_ne.2 (by omega)
      have e5 : (m == 5) = false := beq_eq_false_iff_ne.2 (by omega)
      have e6 : (m == 6) = false := beq_eq_false_iff_ne.2 (by omega)
      have e7 : (m == 7) = false := beq_eq_false_iff_ne.2 (by omega)
      have e8 : (m == 8) = false := beq_eq_false_iff_ne.2 (by omega)
      have e9 : (m == 9) = false := beq_eq_false_iff_ne.2 (by omega)
      have e10 : (m == 10) = false := beq_eq_false_iff_ne.2 (by omega)
      have e11 : (m == 11) = false := beq_eq_false_iff_ne.2 (by omega)
      have e12 : (m == 12) = false := beq_eq_false_iff_ne.2 (by omega)
      go_enter Try.func12, Try.ntmps12
      go_wp2
      go_ret
      exact ⟨ret_int (by rw [Cal.dim_mout h]), rfl⟩

set_option maxRecDepth 100000 in
set_option maxHeartbeats 4000000 in
theorem refDays_c (w : World) (y m : Int) : Calls Try.prog 13 #[.int .i64 y, .int .i64 m] w fun e w' => e = .returned (.int .i64 (Cal.dim y m)) ∧ w = w' := by
  by_cases h : y < 2000 ∨ 2199 < y
  · rcases h with h | h
    · go_enter Try.func13, Try.ntmps13
      go_wp2
      go_ret
      exact ⟨ret_int (by rw [Cal.dim_out (Or.inl h)]), rfl⟩
    · have h' : ¬ y < 2000 := by omega
      go_enter Try.func13, Try.ntmps13
      go_wp2
      go_ret
      exact ⟨ret_int (by rw [Cal.dim_out (Or.inr h)]), rfl⟩
  · have h1 : 2000 ≤ y := by omega
    have h2 : y ≤ 2199 := by omega
    clear h
    rcases months m with h | h | h | h
    · rcases h with rfl | rfl | rfl | rfl | rfl | rfl | rfl
      all_goals
        go_enter Try.func13, Try.ntmps13
        go_wp2
        go_ret
        exact ⟨ret_int (by rw [dimv h1 h2]; rfl), rfl⟩
    · rcases h with rfl | rfl | rfl | rfl
      all_goals
        go_enter Try.func13, Try.ntmps13
        go_wp2
        go_ret
        exact ⟨ret_int (by rw [dimv h1 h2]; rfl), rfl⟩
    · subst h
      have hc : y % 400 = 0 ∨ (¬ y % 400 = 0 ∧ y % 4 = 0 ∧ ¬ y % 100 = 0) ∨ (¬ y % 400 = 0 ∧ y % 4 = 0 ∧ y % 100 = 0) ∨ (¬ y % 400 = 0 ∧ ¬ y % 4 = 0) := by omega
      rcases hc with h | ⟨h, h', h''⟩ | ⟨h, h', h''⟩ | ⟨h, h'⟩
      · go_enter Try.func13, Try.ntmps13
        go_wp2
        go_ret
        exact ⟨ret_int (by rw [dimv h1 h2, if_pos rfl, Cal.feb, if_pos (leap1 h)]), rfl⟩
      · have b1 : (y % 400 == 0) = false := beq_eq_false_iff_ne.2 h
        have b2 : (y % 100 != 0) = true := by rw [bne_iff_ne]; exact h''
        have hl : Cal.leap y = true := by rw [leap2 h h', b1, b2]; rfl
        have HL := hid hl
        clear hl
        go_enter Try.func13, Try.ntmps13
        go_wp2
        go_ret
        exact ⟨ret_int (by rw [dimv h1 h2, if_pos rfl, Cal.feb, if_pos HL.out]), rfl⟩
      · have b1 : (y % 400 == 0) = false := beq_eq_false_iff_ne.2 h
        have b2 : (y % 100 != 0) = false := by simp [h'']
        have hl : Cal.leap y = false := by rw [leap2 h h', b1, b2]; rfl
        have HL := hid hl
        clear hl
        go_enter Try.func13, Try.ntmps13
        go_wp2
        go_ret
        exact ⟨ret_int (by rw [dimv h1 h2, if_pos rfl, Cal.feb, HL.out]; rfl), rfl⟩
      · have b1 : (y % 400 == 0) = false := beq_eq_false_iff_ne.2 h
        have hl : Cal.leap y = false := by rw [leap3 h', b1]
        have HL := hid hl
        clear hl
        go_enter Try.func13, Try.ntmps13
        go_wp2
        go_ret
        exact ⟨ret_int (by rw [dimv h1 h2, if_pos rfl, Cal.feb, HL.out]; rfl), rfl⟩
    · rcases h with h | h
      · go_enter Try.func13, Try.ntmps13
        go_wp2
        go_ret
        exact ⟨ret_int (by rw [Cal.dim_mout (Or.inl h)]), rfl⟩
      · have h' : ¬ m < 1 := by omega
        go_enter Try.func13, Try.ntmps13
        go_wp2
        go_ret
        exact ⟨ret_int (by rw [Cal.dim_mout (Or.inr h)]), rfl⟩
end Go.Proofs.Ythlggjchgngefaa
