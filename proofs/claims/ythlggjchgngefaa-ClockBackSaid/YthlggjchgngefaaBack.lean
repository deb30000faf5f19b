/- The walk of ClockBack. -/
import Derived.Test.YthlggjchgngefaaTextBack
namespace Go.Proofs.Ythlggjchgngefaa
open Go.RowKit

theorem TextAns.yes {t : Int} {e : Ending} (h : TextAns t e) (ht : t < 73049 * 86400) : ∃ y m d hh mi s : Int, DateOf t y m d hh mi s ∧ e = .returned (.tuple #[str (text y m d hh mi s), .int .i64 0]) := by
  rcases h with ⟨_, y, m, d, hh, mi, s, h1, rfl⟩ | ⟨h1, _⟩
  · exact ⟨y, m, d, hh, mi, s, h1, rfl⟩
  · omega
theorem DateOf.join {t y m d h mi s : Int} (hD : DateOf t y m d h mi s) {e : Ending} (hA : JoinAns y m d h mi s e) : e = .returned (.tuple #[.int .u64 t, .int .i64 0]) := by
  obtain ⟨hv, ht, htn⟩ := hD
  rcases hA with ⟨_, rfl⟩ | ⟨hno, _⟩
  · rw [htn]
  · rw [okB_iff.2 ⟨hv, ht⟩] at hno; cases hno
theorem DateOf.lt {t y m d h mi s : Int} (hD : DateOf t y m d h mi s) : 0 ≤ t ∧ t < 73049 * 86400 := by
  obtain ⟨hv, ht, htn⟩ := hD
  have := Cal.dn_max hv
  unfold Cal.tn Cal.vtime at *
  omega
theorem DateOf.split {t y m d h mi s : Int} (hD : DateOf t y m d h mi s) {e : Ending} (hA : SplitAns t e) : e = .returned (.tuple #[dv y m d h mi s, .int .i64 0]) := by
  obtain ⟨y', m', d', h', mi', s', hD', rfl⟩ := hA.yes hD.lt.2
  obtain ⟨rfl, rfl, rfl, rfl, rfl, rfl⟩ := hD.inj hD'
  rfl
/-- The second half: a date that is one leads to a time that leads to it. -/
def Rest (w : World) (e : Ending) (w' : World) : Prop := e = .returned (.bool true) ∧ Below w.heap.size w w'

set_option maxRecDepth 100000 in
set_option maxHeartbeats 8000000 in
theorem back_1 (w : World) (t y m d h mi s : Int) (h0 : 0 ≤ t) (h1 : t ≤ 18446744073709551615) (ht : 73049 * 86400 ≤ t) (hok : okB y m d h mi s = false) : Calls Try.prog 5 #[.int .u64 t, dv y m d h mi s] w fun e w' => e = .returned (.bool true) ∧ Below w.heap.size w w' := by
  have HOK := hid hok
  have ht2 : ¬ t < 6311433600 := by omega
  clear hok
  obtain ⟨W, hW⟩ : ∃ W, W = w.alloc (.cells #[.int .i64 y, .int .i64 m, .int .i64 d, .int .i64 h, .int .i64 mi, .int .i64 s] 23) := ⟨_, rfl⟩
  obtain ⟨B, hB⟩ : ∃ B, B = w.heap.size := ⟨_, rfl⟩
  have C6 := six_cells w 23 (.int .i64 y) (.int .i64 m) (.int .i64 d) (.int .i64 h) (.int .i64 mi) (.int .i64 s) (Below.refl _ _)
  rw [← hW, ← hB] at C6
  have LW := hid (show Below w.heap.size w W by rw [hW]; exact (Below.refl _ _).alloc (Nat.le_refl _) _)
  have hBW : B < W.heap.size := by rw [hB, hW]; simp
  have HC := hid C6
  have HW := hid hW; have HB := hid hB
  clear C6 hW hB
  unfold dv
  go_enter Try.func5, Try.ntmps5
  go_wp2_with fail
  rw [← HW.out, ← HB.out]
  refine (split_c _ _ h0 h1).mono ?_
  rintro e w1 ⟨hA, hb1⟩
  obtain rfl := hA.no ht
  have C1 := carry6 hb1 hBW HC.out
  have z1 : B < w1.heap.size := Nat.lt_of_lt_of_le hBW hb1.size
  have L1 := hid (Below.step LW.out hb1)
  clear hA hb1
  obtain ⟨c0, c1, c2, c3, c4, c5⟩ := C1
  unfold dv
  go_wp2_with fail
  have LX := hid (L1.out.alloc L1.out.size (.cells #[.int .i64 0, .int .i64 0, .int .i64 0, .int .i64 0, .int .i64 0, .int .i64 0] 23))
  have CX : (w1.alloc (.cells #[.int .i64 0, .int .i64 0, .int .i64 0, .int .i64 0, .int .i64 0, .int .i64 0] 23)).cell? ⟨B, 0, none⟩ = some (.int .i64 y) ∧ _ := carry6 ((Below.refl w1.heap.size w1).alloc (Nat.le_refl _) (.cells #[.int .i64 0, .int .i64 0, .int .i64 0, .int .i64 0, .int .i64 0, .int .i64 0] 23)) z1 ⟨c0, c1, c2, c3, c4, c5⟩
  have zX : B < (w1.alloc (.cells #[.int .i64 0, .int .i64 0, .int .i64 0, .int .i64 0, .int .i64 0, .int .i64 0] 23)).heap.size := by simp; omega
  obtain ⟨X, hX⟩ : ∃ X, X = w1.alloc (.cells #[.int .i64 0, .int .i64 0, .int .i64 0, .int .i64 0, .int .i64 0, .int .i64 0] 23) := ⟨_, rfl⟩
  rw [← hX] at LX CX zX
  rw [← hX]
  clear hX c0 c1 c2 c3 c4 c5 z1
  clear CX zX
  refine (join_c _ _ _ _ _ _ _).mono ?_
  rintro e w5 ⟨hA, hb2⟩
  have hA2 : e = .returned (.tuple #[.int .u64 0, .int .i64 1]) := by
    rcases hA with ⟨h, _⟩ | ⟨_, h⟩
    · rw [HOK.out] at h; cases h
    · exact h
  subst hA2
  have L5 := hid (Below.step LX.out hb2)
  clear hA hb2
  go_wp2_with (go_at_call 11; refine (alive_c _).mono ?_; rintro e w6 ⟨rfl, hb3⟩; have L6 := hid (Below.step L5.out hb3); clear hb3)
  go_ret
  exact ⟨rfl, L6.out⟩
set_option maxRecDepth 100000 in
set_option maxHeartbeats 8000000 in
theorem back_2 (w : World) (t y m d h mi s : Int) (h0 : 0 ≤ t) (h1 : t ≤ 18446744073709551615) (ht : 73049 * 86400 ≤ t) (hok : okB y m d h mi s = true) : Calls Try.prog 5 #[.int .u64 t, dv y m d h mi s] w fun e w' => e = .returned (.bool true) ∧ Below w.heap.size w w' := by
  have HOK := hid hok
  have ht2 : ¬ t < 6311433600 := by omega
  clear hok
  obtain ⟨W, hW⟩ : ∃ W, W = w.alloc (.cells #[.int .i64 y, .int .i64 m, .int .i64 d, .int .i64 h, .int .i64 mi, .int .i64 s] 23) := ⟨_, rfl⟩
  obtain ⟨B, hB⟩ : ∃ B, B = w.heap.size := ⟨_, rfl⟩
  have C6 := six_cells w 23 (.int .i64 y) (.int .i64 m) (.int .i64 d) (.int .i64 h) (.int .i64 mi) (.int .i64 s) (Below.refl _ _)
  rw [← hW, ← hB] at C6
  have LW := hid (show Below w.heap.size w W by rw [hW]; exact (Below.refl _ _).alloc (Nat.le_refl _) _)
  have hBW : B < W.heap.size := by rw [hB, hW]; simp
  have HC := hid C6
  have HW := hid hW; have HB := hid hB
  clear C6 hW hB
  unfold dv
  go_enter Try.func5, Try.ntmps5
  go_wp2_with fail
  rw [← HW.out, ← HB.out]
  refine (split_c _ _ h0 h1).mono ?_
  rintro e w1 ⟨hA, hb1⟩
  obtain rfl := hA.no ht
  have C1 := carry6 hb1 hBW HC.out
  have z1 : B < w1.heap.size := Nat.lt_of_lt_of_le hBW hb1.size
  have L1 := hid (Below.step LW.out hb1)
  clear hA hb1
  obtain ⟨c0, c1, c2, c3, c4, c5⟩ := C1
  unfold dv
  go_wp2_with fail
  have LX := hid (L1.out.alloc L1.out.size (.cells #[.int .i64 0, .int .i64 0, .int .i64 0, .int .i64 0, .int .i64 0, .int .i64 0] 23))
  have CX : (w1.alloc (.cells #[.int .i64 0, .int .i64 0, .int .i64 0, .int .i64 0, .int .i64 0, .int .i64 0] 23)).cell? ⟨B, 0, none⟩ = some (.int .i64 y) ∧ _ := carry6 ((Below.refl w1.heap.size w1).alloc (Nat.le_refl _) (.cells #[.int .i64 0, .int .i64 0, .int .i64 0, .int .i64 0, .int .i64 0, .int .i64 0] 23)) z1 ⟨c0, c1, c2, c3, c4, c5⟩
  have zX : B < (w1.alloc (.cells #[.int .i64 0, .int .i64 0, .int .i64 0, .int .i64 0, .int .i64 0, .int .i64 0] 23)).heap.size := by simp; omega
  obtain ⟨X, hX⟩ : ∃ X, X = w1.alloc (.cells #[.int .i64 0, .int .i64 0, .int .i64 0, .int .i64 0, .int .i64 0, .int .i64 0] 23) := ⟨_, rfl⟩
  rw [← hX] at LX CX zX
  rw [← hX]
  clear hX c0 c1 c2 c3 c4 c5 z1
  obtain ⟨kv, kt⟩ := okB_iff.1 HOK.out
  have HD2 := hid (show DateOf (Cal.tn y m d h mi s) y m d h mi s from ⟨kv, kt, rfl⟩)
  clear kv kt
  refine (join_c _ _ _ _ _ _ _).mono ?_
  rintro e w5 ⟨hA, hb2⟩
  obtain rfl := HD2.out.join hA
  have hlt := HD2.out.lt
  obtain ⟨t0, t1⟩ := hlt
  have L5 := hid (Below.step LX.out hb2)
  have C5 := hid (carry6 hb2 zX CX)
  have z5 : B < w5.heap.size := Nat.lt_of_lt_of_le zX hb2.size
  clear hA hb2 CX zX
  go_wp2_with fail
  refine (split_c _ _ t0 (by omega)).mono ?_
  rintro e w6 ⟨hA, hb3⟩
  obtain rfl := HD2.out.split hA
  have L6 := hid (Below.step L5.out hb3)
  have C6 := carry6 hb3 z5 C5.out
  have z6 : B < w6.heap.size := Nat.lt_of_lt_of_le z5 hb3.size
  clear hA hb3 z5
  unfold dv
  have CY := hid (carry6 ((Below.refl w6.heap.size w6).alloc (Nat.le_refl _) (.cells #[.int .i64 y, .int .i64 m, .int .i64 d, .int .i64 h, .int .i64 mi, .int .i64 s] 23)) z6 C6)
  have DY := hid (six_cells w6 23 (.int .i64 y) (.int .i64 m) (.int .i64 d) (.int .i64 h) (.int .i64 mi) (.int .i64 s) (Below.refl _ _))
  obtain ⟨X6, hX6⟩ : ∃ X, X = w6.alloc (.cells #[.int .i64 y, .int .i64 m, .int .i64 d, .int .i64 h, .int .i64 mi, .int .i64 s] 23) := ⟨_, rfl⟩
  obtain ⟨B6, hB6⟩ : ∃ B6, B6 = w6.heap.size := ⟨_, rfl⟩
  have LY6 := hid (L6.out.alloc L6.out.size (.cells #[.int .i64 y, .int .i64 m, .int .i64 d, .int .i64 h, .int .i64 mi, .int .i64 s] 23))
  have zY : B < X6.heap.size := by rw [hX6]; simp; omega
  have zY6 : B6 < X6.heap.size := by rw [hX6, hB6]; simp
  rw [← hX6] at CY LY6 DY
  rw [← hB6] at DY
  have HX6 := hid hX6; have HB6 := hid hB6
  clear hX6 hB6 C6
  go_wp2_with fail
  rw [← HX6.out, ← HB6.out]
  refine (alive_c _).mono ?_
  rintro e w7 ⟨rfl, hb4⟩
  have C7 := carry6 hb4 zY CY.out
  have D7 := carry6 hb4 zY6 DY.out
  have L7 := hid (Below.step LY6.out hb4)
  clear hb4
  obtain ⟨c0, c1, c2, c3, c4, c5⟩ := C7
  obtain ⟨d0, d1, d2, d3, d4, d5⟩ := D7
  go_wp2_with fail
  go_ret
  exact ⟨rfl, L7.out⟩
set_option maxRecDepth 100000 in
set_option maxHeartbeats 8000000 in
theorem back_3 (w : World) (t y m d h mi s : Int) (h0 : 0 ≤ t) (h1 : t ≤ 18446744073709551615) (ht : t < 73049 * 86400) (hok : okB y m d h mi s = false) : Calls Try.prog 5 #[.int .u64 t, dv y m d h mi s] w fun e w' => e = .returned (.bool true) ∧ Below w.heap.size w w' := by
  have HOK := hid hok
  have ht2 : t < 6311433600 := by omega
  clear hok
  obtain ⟨W, hW⟩ : ∃ W, W = w.alloc (.cells #[.int .i64 y, .int .i64 m, .int .i64 d, .int .i64 h, .int .i64 mi, .int .i64 s] 23) := ⟨_, rfl⟩
  obtain ⟨B, hB⟩ : ∃ B, B = w.heap.size := ⟨_, rfl⟩
  have C6 := six_cells w 23 (.int .i64 y) (.int .i64 m) (.int .i64 d) (.int .i64 h) (.int .i64 mi) (.int .i64 s) (Below.refl _ _)
  rw [← hW, ← hB] at C6
  have LW := hid (show Below w.heap.size w W by rw [hW]; exact (Below.refl _ _).alloc (Nat.le_refl _) _)
  have hBW : B < W.heap.size := by rw [hB, hW]; simp
  have HC := hid C6
  have HW := hid hW; have HB := hid hB
  clear C6 hW hB
  unfold dv
  go_enter Try.func5, Try.ntmps5
  go_wp2_with fail
  rw [← HW.out, ← HB.out]
  refine (split_c _ _ h0 h1).mono ?_
  rintro e w1 ⟨hA, hb1⟩
  obtain ⟨y', m', d', h', mi', s', hD, rfl⟩ := hA.yes ht
  have HD := hid hD
  have C1 := carry6 hb1 hBW HC.out
  have z1 : B < w1.heap.size := Nat.lt_of_lt_of_le hBW hb1.size
  have L1 := hid (Below.step LW.out hb1)
  clear hA hb1 hD
  have CY := carry6 ((Below.refl w1.heap.size w1).alloc (Nat.le_refl _) (.cells #[.int .i64 y', .int .i64 m', .int .i64 d', .int .i64 h', .int .i64 mi', .int .i64 s'] 23)) z1 C1
  have zY : B < (w1.alloc (.cells #[.int .i64 y', .int .i64 m', .int .i64 d', .int .i64 h', .int .i64 mi', .int .i64 s'] 23)).heap.size := by simp; omega
  have LY := hid (L1.out.alloc L1.out.size (.cells #[.int .i64 y', .int .i64 m', .int .i64 d', .int .i64 h', .int .i64 mi', .int .i64 s'] 23))
  unfold dv
  have HCY := hid CY
  clear CY C1
  go_wp2_with fail
  refine (join_c _ _ _ _ _ _ _).mono ?_
  rintro e w2 ⟨hA, hb2⟩
  obtain rfl := HD.out.join hA
  have C2 := hid (carry6 hb2 zY HCY.out)
  have z2 : B < w2.heap.size := Nat.lt_of_lt_of_le zY hb2.size
  have L2 := hid (Below.step LY.out hb2)
  clear hA hb2 zY z1
  go_wp2_with fail
  refine (text_c _ _ h0 h1).mono ?_
  rintro e w3 ⟨hA, hb3⟩
  have hA3 := hA.same (Or.inl ⟨ht, y', m', d', h', mi', s', HD.out, rfl⟩)
  subst hA3
  have C3 := hid (carry6 hb3 z2 C2.out)
  have z3 : B < w3.heap.size := Nat.lt_of_lt_of_le z2 hb3.size
  have L3 := hid (Below.step L2.out hb3)
  clear hA hb3 z2
  unfold str
  go_wp2_with fail
  refine (parse_c _ _).mono ?_
  rintro e X ⟨hA, hb4⟩
  obtain rfl := parse_text HD.out hA
  have CX := carry6 hb4 z3 C3.out
  have zX : B < X.heap.size := Nat.lt_of_lt_of_le z3 hb4.size
  have LX := hid (Below.step L3.out hb4)
  clear hA hb4 z3
  obtain ⟨c0, c1, c2, c3, c4, c5⟩ := id CX
  have HCX := hid CX
  clear CX
  go_wp2_with fail
  clear c0 c1 c2 c3 c4 c5
  have CX := HCX.out
  clear CX zX
  refine (join_c _ _ _ _ _ _ _).mono ?_
  rintro e w5 ⟨hA, hb2⟩
  have hA2 : e = .returned (.tuple #[.int .u64 0, .int .i64 1]) := by
    rcases hA with ⟨h, _⟩ | ⟨_, h⟩
    · rw [HOK.out] at h; cases h
    · exact h
  subst hA2
  have L5 := hid (Below.step LX.out hb2)
  clear hA hb2
  go_wp2_with (go_at_call 11; refine (alive_c _).mono ?_; rintro e w6 ⟨rfl, hb3⟩; have L6 := hid (Below.step L5.out hb3); clear hb3)
  go_ret
  exact ⟨rfl, L6.out⟩
set_option maxRecDepth 100000 in
set_option maxHeartbeats 8000000 in
theorem back_4 (w : World) (t y m d h mi s : Int) (h0 : 0 ≤ t) (h1 : t ≤ 18446744073709551615) (ht : t < 73049 * 86400) (hok : okB y m d h mi s = true) : Calls Try.prog 5 #[.int .u64 t, dv y m d h mi s] w fun e w' => e = .returned (.bool true) ∧ Below w.heap.size w w' := by
  have HOK := hid hok
  have ht2 : t < 6311433600 := by omega
  clear hok
  obtain ⟨W, hW⟩ : ∃ W, W = w.alloc (.cells #[.int .i64 y, .int .i64 m, .int .i64 d, .int .i64 h, .int .i64 mi, .int .i64 s] 23) := ⟨_, rfl⟩
  obtain ⟨B, hB⟩ : ∃ B, B = w.heap.size := ⟨_, rfl⟩
  have C6 := six_cells w 23 (.int .i64 y) (.int .i64 m) (.int .i64 d) (.int .i64 h) (.int .i64 mi) (.int .i64 s) (Below.refl _ _)
  rw [← hW, ← hB] at C6
  have LW := hid (show Below w.heap.size w W by rw [hW]; exact (Below.refl _ _).alloc (Nat.le_refl _) _)
  have hBW : B < W.heap.size := by rw [hB, hW]; simp
  have HC := hid C6
  have HW := hid hW; have HB := hid hB
  clear C6 hW hB
  unfold dv
  go_enter Try.func5, Try.ntmps5
  go_wp2_with fail
  rw [← HW.out, ← HB.out]
  refine (split_c _ _ h0 h1).mono ?_
  rintro e w1 ⟨hA, hb1⟩
  obtain ⟨y', m', d', h', mi', s', hD, rfl⟩ := hA.yes ht
  have HD := hid hD
  have C1 := carry6 hb1 hBW HC.out
  have z1 : B < w1.heap.size := Nat.lt_of_lt_of_le hBW hb1.size
  have L1 := hid (Below.step LW.out hb1)
  clear hA hb1 hD
  have CY := carry6 ((Below.refl w1.heap.size w1).alloc (Nat.le_refl _) (.cells #[.int .i64 y', .int .i64 m', .int .i64 d', .int .i64 h', .int .i64 mi', .int .i64 s'] 23)) z1 C1
  have zY : B < (w1.alloc (.cells #[.int .i64 y', .int .i64 m', .int .i64 d', .int .i64 h', .int .i64 mi', .int .i64 s'] 23)).heap.size := by simp; omega
  have LY := hid (L1.out.alloc L1.out.size (.cells #[.int .i64 y', .int .i64 m', .int .i64 d', .int .i64 h', .int .i64 mi', .int .i64 s'] 23))
  unfold dv
  have HCY := hid CY
  clear CY C1
  go_wp2_with fail
  refine (join_c _ _ _ _ _ _ _).mono ?_
  rintro e w2 ⟨hA, hb2⟩
  obtain rfl := HD.out.join hA
  have C2 := hid (carry6 hb2 zY HCY.out)
  have z2 : B < w2.heap.size := Nat.lt_of_lt_of_le zY hb2.size
  have L2 := hid (Below.step LY.out hb2)
  clear hA hb2 zY z1
  go_wp2_with fail
  refine (text_c _ _ h0 h1).mono ?_
  rintro e w3 ⟨hA, hb3⟩
  have hA3 := hA.same (Or.inl ⟨ht, y', m', d', h', mi', s', HD.out, rfl⟩)
  subst hA3
  have C3 := hid (carry6 hb3 z2 C2.out)
  have z3 : B < w3.heap.size := Nat.lt_of_lt_of_le z2 hb3.size
  have L3 := hid (Below.step L2.out hb3)
  clear hA hb3 z2
  unfold str
  go_wp2_with fail
  refine (parse_c _ _).mono ?_
  rintro e X ⟨hA, hb4⟩
  obtain rfl := parse_text HD.out hA
  have CX := carry6 hb4 z3 C3.out
  have zX : B < X.heap.size := Nat.lt_of_lt_of_le z3 hb4.size
  have LX := hid (Below.step L3.out hb4)
  clear hA hb4 z3
  obtain ⟨c0, c1, c2, c3, c4, c5⟩ := id CX
  have HCX := hid CX
  clear CX
  go_wp2_with fail
  clear c0 c1 c2 c3 c4 c5
  have CX := HCX.out
  obtain ⟨kv, kt⟩ := okB_iff.1 HOK.out
  have HD2 := hid (show DateOf (Cal.tn y m d h mi s) y m d h mi s from ⟨kv, kt, rfl⟩)
  clear kv kt
  refine (join_c _ _ _ _ _ _ _).mono ?_
  rintro e w5 ⟨hA, hb2⟩
  obtain rfl := HD2.out.join hA
  have hlt := HD2.out.lt
  obtain ⟨t0, t1⟩ := hlt
  have L5 := hid (Below.step LX.out hb2)
  have C5 := hid (carry6 hb2 zX CX)
  have z5 : B < w5.heap.size := Nat.lt_of_lt_of_le zX hb2.size
  clear hA hb2 CX zX
  go_wp2_with fail
  refine (split_c _ _ t0 (by omega)).mono ?_
  rintro e w6 ⟨hA, hb3⟩
  obtain rfl := HD2.out.split hA
  have L6 := hid (Below.step L5.out hb3)
  have C6 := carry6 hb3 z5 C5.out
  have z6 : B < w6.heap.size := Nat.lt_of_lt_of_le z5 hb3.size
  clear hA hb3 z5
  unfold dv
  have CY := hid (carry6 ((Below.refl w6.heap.size w6).alloc (Nat.le_refl _) (.cells #[.int .i64 y, .int .i64 m, .int .i64 d, .int .i64 h, .int .i64 mi, .int .i64 s] 23)) z6 C6)
  have DY := hid (six_cells w6 23 (.int .i64 y) (.int .i64 m) (.int .i64 d) (.int .i64 h) (.int .i64 mi) (.int .i64 s) (Below.refl _ _))
  obtain ⟨X6, hX6⟩ : ∃ X, X = w6.alloc (.cells #[.int .i64 y, .int .i64 m, .int .i64 d, .int .i64 h, .int .i64 mi, .int .i64 s] 23) := ⟨_, rfl⟩
  obtain ⟨B6, hB6⟩ : ∃ B6, B6 = w6.heap.size := ⟨_, rfl⟩
  have LY6 := hid (L6.out.alloc L6.out.size (.cells #[.int .i64 y, .int .i64 m, .int .i64 d, .int .i64 h, .int .i64 mi, .int .i64 s] 23))
  have zY : B < X6.heap.size := by rw [hX6]; simp; omega
  have zY6 : B6 < X6.heap.size := by rw [hX6, hB6]; simp
  rw [← hX6] at CY LY6 DY
  rw [← hB6] at DY
  have HX6 := hid hX6; have HB6 := hid hB6
  clear hX6 hB6 C6
  go_wp2_with fail
  rw [← HX6.out, ← HB6.out]
  refine (alive_c _).mono ?_
  rintro e w7 ⟨rfl, hb4⟩
  have C7 := carry6 hb4 zY CY.out
  have D7 := carry6 hb4 zY6 DY.out
  have L7 := hid (Below.step LY6.out hb4)
  clear hb4
  obtain ⟨c0, c1, c2, c3, c4, c5⟩ := C7
  obtain ⟨d0, d1, d2, d3, d4, d5⟩ := D7
  go_wp2_with fail
  go_ret
  exact ⟨rfl, L7.out⟩
theorem back_walk (w : World) (t y m d h mi s : Int) (h0 : 0 ≤ t) (h1 : t ≤ 18446744073709551615) : Calls Try.prog 5 #[.int .u64 t, dv y m d h mi s] w fun e w' => e = .returned (.bool true) ∧ Below w.heap.size w w' := by
  by_cases ht : t < 73049 * 86400
  · cases hok : okB y m d h mi s with
    | false => exact back_3 w t y m d h mi s h0 h1 ht hok
    | true => exact back_4 w t y m d h mi s h0 h1 ht hok
  · cases hok : okB y m d h mi s with
    | false => exact back_1 w t y m d h mi s h0 h1 (by omega) hok
    | true => exact back_2 w t y m d h mi s h0 h1 (by omega) hok
end Go.Proofs.Ythlggjchgngefaa
