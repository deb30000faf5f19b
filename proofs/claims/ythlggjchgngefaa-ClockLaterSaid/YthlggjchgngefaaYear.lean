/- Years' and months' first days; a day's year. -/
import Derived.Test.YthlggjchgngefaaDays
namespace Go.Proofs.Ythlggjchgngefaa
open Go.RowKit

set_option maxRecDepth 100000 in
set_option maxHeartbeats 1000000 in
theorem up_c (w : World) (y : Int) (h0 : 0 ≤ y) (h1 : y ≤ 10000) : Calls Try.prog 34 #[.int .i64 y] w fun e w' => e = .returned (.int .i64 (Cal.up y)) ∧ w = w' := by
  go_enter Try.func34, Try.ntmps34
  go_wp2
  go_ret
  exact ⟨rfl, rfl⟩
set_option maxRecDepth 100000 in
set_option maxHeartbeats 1000000 in
theorem leaps_c (w : World) (y : Int) (h0 : 1 ≤ y) (h1 : y ≤ 10000) : Calls Try.prog 33 #[.int .i64 y] w fun e w' => e = .returned (.int .i64 (Cal.up (y - 1) - Cal.up 1999)) ∧ w = w' := by
  have b1 : -100000 ≤ Cal.up (y - 1) ∧ Cal.up (y - 1) ≤ 100000 := by unfold Cal.up; omega
  have b2 : -100000 ≤ Cal.up 1999 ∧ Cal.up 1999 ≤ 100000 := by unfold Cal.up; omega
  obtain ⟨b1, b1'⟩ := b1
  obtain ⟨b2, b2'⟩ := b2
  go_enter Try.func33, Try.ntmps33
  go_wp2_with (go_at_call 34; refine (up_c _ _ (by omega) (by omega)).mono ?_; rintro e w' ⟨rfl, rfl⟩)
  go_ret
  exact ⟨rfl, rfl⟩
set_option maxRecDepth 100000 in
set_option maxHeartbeats 1000000 in
theorem yearDay_c (w : World) (y : Int) (h0 : 2000 ≤ y) (h1 : y ≤ 2200) : Calls Try.prog 25 #[.int .i64 y] w fun e w' => e = .returned (.int .i64 (Cal.yd (y - 2000).toNat)) ∧ w = w' := by
  have b1 : -100000 ≤ Cal.up (y - 1) ∧ Cal.up (y - 1) ≤ 100000 := by unfold Cal.up; omega
  have b2 : -100000 ≤ Cal.up 1999 ∧ Cal.up 1999 ≤ 100000 := by unfold Cal.up; omega
  obtain ⟨b1, b1'⟩ := b1
  obtain ⟨b2, b2'⟩ := b2
  go_enter Try.func25, Try.ntmps25
  go_wp2_with (go_at_call 33; refine (leaps_c _ _ (by omega) (by omega)).mono ?_; rintro e w' ⟨rfl, rfl⟩)
  go_ret
  refine ⟨ret_int ?_, rfl⟩
  obtain ⟨n, rfl⟩ : ∃ n : Nat, y = 2000 + n := ⟨(y - 2000).toNat, by omega⟩
  rw [show ((2000 : Int) + (n : Int) - 2000).toNat = n by omega, Cal.yd_eq (by omega), show (2000 : Int) + n - 1 = 1999 + n by omega, show (2000 : Int) + n - 2000 = n by omega]
set_option maxRecDepth 100000 in
set_option maxHeartbeats 1000000 in
theorem monthDay_c (w : World) (y m : Int) (h0 : 1 ≤ m) (h1 : m ≤ 12) : Calls Try.prog 26 #[.int .i64 y, .int .i64 m] w fun e w' => e = .returned (.int .i64 (Cal.md y (m - 1).toNat)) ∧ w = w' := by
  go_enter Try.func26, Try.ntmps26
  go_wp2
  go_loop [5, 6] (fun v5 v6 => ∃ k : Nat, (k : Int) + 1 ≤ m ∧ v6 = .int .i64 ((k : Int) + 1) ∧ v5 = .int .i64 (Cal.md y k)) (fun _ v6 => (12 - intOf v6).toNat)
  case atStart => exact ⟨0, by omega, rfl, rfl⟩
  case round =>
    obtain ⟨k, hk, rfl, rfl⟩ := hrel
    have b1 := Cal.md_bd y k
    obtain ⟨b1, b2⟩ := b1
    have b3 := Cal.dim_range y (k + 1)
    obtain ⟨b3, b4⟩ := b3
    by_cases hlt : (k : Int) + 1 < m
    · go_wp2_with (go_at_call 12; refine (days_c _ _ _).mono ?_; rintro e w' ⟨rfl, rfl⟩)
      go_round
      case rel => exact ⟨k + 1, by omega, by go_num, rfl⟩
      case measure => simp [intOf]; omega
    · go_wp2
      go_ret
      have hm : m.toNat - 1 = k := by omega
      exact ⟨ret_int (by rw [hm]), rfl⟩
set_option maxRecDepth 100000 in
set_option maxHeartbeats 1000000 in
theorem yearOf_c (w : World) (d : Int) (h0 : 0 ≤ d) (h1 : d < 73049) : Calls Try.prog 30 #[.int .i64 d] w fun e w' => ∃ n : Nat, n < 200 ∧ Cal.yd n ≤ d ∧ d < Cal.yd (n + 1) ∧ e = .returned (.tuple #[.int .i64 (2000 + n), .int .i64 (d - Cal.yd n)]) ∧ w = w' := by
  go_enter Try.func30, Try.ntmps30
  go_wp2
  go_loop [4] (fun v4 => ∃ n : Nat, n < 200 ∧ Cal.yd n ≤ d ∧ v4 = .int .i64 (2000 + (n : Int))) (fun v4 => (2200 - intOf v4).toNat)
  case atStart =>
    refine ⟨(d / 366).toNat, by omega, ?_, by congr 1; omega⟩
    have := Cal.yd_le (n := (d / 366).toNat) (by omega)
    omega
  case round =>
    obtain ⟨n, hn, hy, rfl⟩ := hrel
    have e1 : ((2000 : Int) + n + 1 - 2000).toNat = n + 1 := by omega
    have e2 : ((2000 : Int) + n - 2000).toNat = n := by omega
    have c1 := fun w => yearDay_c w (2000 + n + 1) (by omega) (by omega)
    have c2 := fun w => yearDay_c w (2000 + n) (by omega) (by omega)
    rw [e1] at c1
    rw [e2] at c2
    have C1 := hid c1
    have C2 := hid c2
    clear c1 c2 e1 e2
    have b1 := (Cal.yd_bd n).1
    have b2 := (Cal.yd_bd n).2
    have b3 := (Cal.yd_bd (n + 1)).2
    have b4 := (Cal.yd_bd (n + 1)).1
    by_cases hc : Cal.yd (n + 1) ≤ d
    · have hn2 : n < 199 := by
        by_cases e : n = 199
        · subst e; rw [Cal.yd_200] at hc; omega
        · omega
      go_wp2_with (go_at_call 25; refine (C1.out _).mono ?_; rintro e w' ⟨rfl, rfl⟩)
      go_round
      case rel => exact ⟨n + 1, by omega, hc, by go_num⟩
      case measure => simp [intOf]; omega
    · go_wp2_with (first | (go_at_call 25; refine (C1.out _).mono ?_; rintro e w' ⟨rfl, rfl⟩) | (go_at_call 25; refine (C2.out _).mono ?_; rintro e w' ⟨rfl, rfl⟩))
      go_ret2
      exact ⟨n, hn, hy, by omega, rfl, rfl⟩
end Go.Proofs.Ythlggjchgngefaa
