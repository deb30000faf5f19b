/- The walk of ClockTold. -/
import Derived.Test.YthlggjchgngefaaJoins
namespace Go.Proofs.Ythlggjchgngefaa
open Go.RowKit
attribute [local go_sem ↓] Go.wp_at_zero Go.wp_at_succ

theorem SplitAns.form {t : Int} {e : Ending} (a : SplitAns t e) : ∃ y m d h mi s c : Int, e = .returned (.tuple #[dv y m d h mi s, .int .i64 c]) ∧ SplitAns t (.returned (.tuple #[dv y m d h mi s, .int .i64 c])) := by
  rcases a with ⟨h, v, ⟨y, m, d, h1, h2, rfl⟩, rfl⟩ | ⟨h, rfl⟩
  · exact ⟨_, _, _, _, _, _, _, rfl, Or.inl ⟨h, _, ⟨y, m, d, h1, h2, rfl⟩, rfl⟩⟩
  · exact ⟨_, _, _, _, _, _, _, rfl, Or.inr ⟨h, rfl⟩⟩
theorem SplitAns.same {t : Int} {e e' : Ending} (a : SplitAns t e) (b : SplitAns t e') : e = e' := by
  rcases a with ⟨h, v, h1, rfl⟩ | ⟨h, rfl⟩ <;> rcases b with ⟨h', v', h1', rfl⟩ | ⟨h', rfl⟩
  · rw [h1.inj h1']
  · omega
  · omega
  · rfl
theorem TextAns.form {t : Int} {e : Ending} (a : TextAns t e) : ∃ (s : ByteArray) (c : Int), e = .returned (.tuple #[.string s, .int .i64 c]) ∧ TextAns t (.returned (.tuple #[.string s, .int .i64 c])) := by
  rcases a with ⟨h, y, m, d, hh, mi, s, h1, rfl⟩ | ⟨h, rfl⟩
  · exact ⟨_, _, rfl, Or.inl ⟨h, y, m, d, hh, mi, s, h1, rfl⟩⟩
  · exact ⟨_, _, rfl, Or.inr ⟨h, rfl⟩⟩

theorem two6 {W w3 : World} (hb : Below W.heap.size W w3) {B B' : Nat} (hB : B < W.heap.size) (hB' : B' < W.heap.size) {a b c d e f a' b' c' d' e' f' : Value}
    (h : (W.cell? ⟨B, 0, none⟩ = some a ∧ W.cell? ⟨B, 1, none⟩ = some b ∧ W.cell? ⟨B, 2, none⟩ = some c ∧ W.cell? ⟨B, 3, none⟩ = some d ∧ W.cell? ⟨B, 4, none⟩ = some e ∧ W.cell? ⟨B, 5, none⟩ = some f) ∧ (W.cell? ⟨B', 0, none⟩ = some a' ∧ W.cell? ⟨B', 1, none⟩ = some b' ∧ W.cell? ⟨B', 2, none⟩ = some c' ∧ W.cell? ⟨B', 3, none⟩ = some d' ∧ W.cell? ⟨B', 4, none⟩ = some e' ∧ W.cell? ⟨B', 5, none⟩ = some f')) :
    (w3.cell? ⟨B, 0, none⟩ = some a ∧ w3.cell? ⟨B, 1, none⟩ = some b ∧ w3.cell? ⟨B, 2, none⟩ = some c ∧ w3.cell? ⟨B, 3, none⟩ = some d ∧ w3.cell? ⟨B, 4, none⟩ = some e ∧ w3.cell? ⟨B, 5, none⟩ = some f) ∧ (w3.cell? ⟨B', 0, none⟩ = some a' ∧ w3.cell? ⟨B', 1, none⟩ = some b' ∧ w3.cell? ⟨B', 2, none⟩ = some c' ∧ w3.cell? ⟨B', 3, none⟩ = some d' ∧ w3.cell? ⟨B', 4, none⟩ = some e' ∧ w3.cell? ⟨B', 5, none⟩ = some f') :=
  ⟨carry6 hb hB h.1, carry6 hb hB' h.2⟩
set_option maxRecDepth 100000 in
set_option maxHeartbeats 8000000 in
theorem told_walk (w : World) (t : Int) (h0 : 0 ≤ t) (h1 : t ≤ 18446744073709551615) : Calls Try.prog 6 #[.int .u64 t] w fun e w' => e = .returned (.bool true) ∧ Below w.heap.size w w' := by
  go_enter Try.func6, Try.ntmps6
  go_wp2_with fail
  refine (split_c _ _ h0 h1).mono ?_
  rintro e w1 ⟨hA, hb1⟩
  obtain ⟨y, m, d, h, mi, s, c, rfl, hA'⟩ := hA.form
  have HA := hid hA'
  obtain ⟨B1, hB1⟩ : ∃ B1, B1 = w1.heap.size := ⟨_, rfl⟩
  obtain ⟨W1, hW1⟩ : ∃ W, W = w1.alloc (.cells #[.int .i64 y, .int .i64 m, .int .i64 d, .int .i64 h, .int .i64 mi, .int .i64 s] 23) := ⟨_, rfl⟩
  have C1 := six_cells w1 23 (.int .i64 y) (.int .i64 m) (.int .i64 d) (.int .i64 h) (.int .i64 mi) (.int .i64 s) (Below.refl _ _)
  rw [← hW1, ← hB1] at C1
  have L1 := hid (show Below w.heap.size w W1 by rw [hW1]; exact hb1.alloc hb1.size _)
  have z1 : B1 < W1.heap.size := by rw [hB1, hW1]; simp
  have C1 := hid C1
  have HW1 := hid hW1
  have HB1 := hid hB1
  clear hA hA' hb1 hW1 hB1
  unfold dv
  go_wp2_with fail
  rw [← HW1.out, ← HB1.out]
  refine (refSplit_c _ _ h0 h1).mono ?_
  rintro e w2 ⟨hA, hb2⟩
  obtain rfl := hA.same HA.out
  have C2 := hid (carry6 hb2 z1 C1.out)
  have z2 : B1 < w2.heap.size := Nat.lt_of_lt_of_le z1 hb2.size
  have L2 := hid (Below.step L1.out hb2)
  obtain ⟨B3, hB3⟩ : ∃ B3, B3 = w2.heap.size := ⟨_, rfl⟩
  obtain ⟨W3, hW3⟩ : ∃ W, W = w2.alloc (.cells #[.int .i64 y, .int .i64 m, .int .i64 d, .int .i64 h, .int .i64 mi, .int .i64 s] 29) := ⟨_, rfl⟩
  have C3 := six_cells w2 29 (.int .i64 y) (.int .i64 m) (.int .i64 d) (.int .i64 h) (.int .i64 mi) (.int .i64 s) (Below.refl _ _)
  rw [← hW3, ← hB3] at C3
  have hb3 : Below w2.heap.size w2 W3 := by rw [hW3]; exact (Below.refl _ _).alloc (Nat.le_refl _) _
  have z3 : B3 < W3.heap.size := by rw [hB3, hW3]; simp
  have C2' := hid (carry6 hb3 z2 C2.out)
  have z3' : B1 < W3.heap.size := Nat.lt_of_lt_of_le z2 hb3.size
  have L3 := hid (Below.step L2.out hb3)
  have C3 := hid C3
  have HW3 := hid hW3
  have HB3 := hid hB3
  clear hA hb2 hb3 hW3 hB3
  unfold dv
  go_wp2_with fail
  rw [← HW3.out, ← HB3.out]
  refine (text_c _ _ h0 h1).mono ?_
  rintro e w4 ⟨hA, hb4⟩
  obtain ⟨S, c2, rfl, hA'⟩ := hA.form
  have HT := hid hA'
  have C4 := hid (carry6 hb4 z3' C2'.out)
  have D4 := hid (carry6 hb4 z3 C3.out)
  have z4' : B1 < w4.heap.size := Nat.lt_of_lt_of_le z3' hb4.size
  have z4 : B3 < w4.heap.size := Nat.lt_of_lt_of_le z3 hb4.size
  have L4 := hid (Below.step L3.out hb4)
  clear hA hA' hb4
  go_wp2_with fail
  refine (refText_c _ _ h0 h1).mono ?_
  rintro e w5 ⟨hA, hb5⟩
  obtain rfl := hA.same HT.out
  have C5 := carry6 hb5 z4' C4.out
  have D5 := carry6 hb5 z4 D4.out
  have z5' : B1 < w5.heap.size := Nat.lt_of_lt_of_le z4' hb5.size
  have z5 : B3 < w5.heap.size := Nat.lt_of_lt_of_le z4 hb5.size
  have L5 : Below w.heap.size w w5 := (Below.step L4.out hb5)
  clear hA hb5 z4 z4' z3 z3' z2 z1
  go_wp2_with fail
  have LD : Below w.heap.size w w5.drew := L5.drew
  have y5' : B1 < w5.drew.heap.size := z5'
  have y5 : B3 < w5.drew.heap.size := z5
  have T5 : (w5.cell? ⟨B1, 0, none⟩ = some (.int .i64 y) ∧ w5.cell? ⟨B1, 1, none⟩ = some (.int .i64 m) ∧ w5.cell? ⟨B1, 2, none⟩ = some (.int .i64 d) ∧ w5.cell? ⟨B1, 3, none⟩ = some (.int .i64 h) ∧ w5.cell? ⟨B1, 4, none⟩ = some (.int .i64 mi) ∧ w5.cell? ⟨B1, 5, none⟩ = some (.int .i64 s)) ∧ (w5.cell? ⟨B3, 0, none⟩ = some (.int .i64 y) ∧ w5.cell? ⟨B3, 1, none⟩ = some (.int .i64 m) ∧ w5.cell? ⟨B3, 2, none⟩ = some (.int .i64 d) ∧ w5.cell? ⟨B3, 3, none⟩ = some (.int .i64 h) ∧ w5.cell? ⟨B3, 4, none⟩ = some (.int .i64 mi) ∧ w5.cell? ⟨B3, 5, none⟩ = some (.int .i64 s)) := ⟨C5, D5⟩
  clear C5 D5
  go_region_held3 (fun w' => (w'.cell? ⟨B1, 0, none⟩ = some (.int .i64 y) ∧ w'.cell? ⟨B1, 1, none⟩ = some (.int .i64 m) ∧ w'.cell? ⟨B1, 2, none⟩ = some (.int .i64 d) ∧ w'.cell? ⟨B1, 3, none⟩ = some (.int .i64 h) ∧ w'.cell? ⟨B1, 4, none⟩ = some (.int .i64 mi) ∧ w'.cell? ⟨B1, 5, none⟩ = some (.int .i64 s)) ∧ (w'.cell? ⟨B3, 0, none⟩ = some (.int .i64 y) ∧ w'.cell? ⟨B3, 1, none⟩ = some (.int .i64 m) ∧ w'.cell? ⟨B3, 2, none⟩ = some (.int .i64 d) ∧ w'.cell? ⟨B3, 3, none⟩ = some (.int .i64 h) ∧ w'.cell? ⟨B3, 4, none⟩ = some (.int .i64 mi) ∧ w'.cell? ⟨B3, 5, none⟩ = some (.int .i64 s)))
    (first | assumption | go_keep)
    (first
      | (go_at_call 11; refine (alive_c _).mono ?_; rintro e w6 ⟨rfl, hb⟩; have k6 := two6 (B := B1) (B' := B3) hb (by assumption) (by assumption) (by assumption); have z6' : B1 < w6.heap.size := (Nat.lt_of_lt_of_le (by assumption) hb.size); have z6 : B3 < w6.heap.size := (Nat.lt_of_lt_of_le (by assumption) hb.size); have L6 : Below w.heap.size w w6 := Below.step (by assumption) hb; clear hb)
      | (go_at_call 10; refine (plain_c _ _ _ _ _ _ _).mono ?_; rintro e w7 ⟨rfl, hb⟩; have k7 := two6 (B := B1) (B' := B3) hb (by assumption) (by assumption) (by assumption); have z7' : B1 < w7.heap.size := (Nat.lt_of_lt_of_le (by assumption) hb.size); have z7 : B3 < w7.heap.size := (Nat.lt_of_lt_of_le (by assumption) hb.size); have L7 : Below w.heap.size w w7 := Below.step (by assumption) hb; clear hb; unfold dv)
      | (go_at_call 20; refine (weekday_c _ _ h0 h1).mono ?_; rintro e w8 ⟨rfl, rfl⟩)
      | (go_at_call 21; refine (refWeekday_c _ _ h0 h1).mono ?_; rintro e w8 ⟨rfl, rfl⟩)
      | (go_at_call 22; refine (week_c _ _ h0 h1).mono ?_; rintro e w8 ⟨rfl, rfl⟩)
      | (go_at_call 23; refine (refWeek_c _ _ h0 h1).mono ?_; rintro e w8 ⟨rfl, rfl⟩))
  go_wp2_with fail
  go_ret
  exact ⟨rfl, L7⟩
theorem clockTold_w {W : World} (t : Int) (ht : (Lit.int .u64 t).wf = true) : Calls Try.prog 6 #[.int .u64 t] W fun e w' => e = .returned (.bool true) ∧ Below W.heap.size W w' := by
  simp [Lit.wf, IntKind.min, IntKind.max, IntKind.signed, IntKind.bits] at ht
  exact told_walk W t (by omega) (by omega)
end Go.Proofs.Ythlggjchgngefaa
