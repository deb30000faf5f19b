/- The live question of the clock; weekday and week. -/
import Derived.Test.YthlggjchgngefaaParse
namespace Go.Proofs.Ythlggjchgngefaa
open Go.RowKit

def wday (t : Int) : Int := (t / 86400 + 5) % 7
def weekN (t : Int) : Int := (t / 86400 + 5) / 7
theorem weekday_c (w : World) (t : Int) (h0 : 0 ≤ t) (h1 : t ≤ 18446744073709551615) : Calls Try.prog 20 #[.int .u64 t] w fun e w' => e = .returned (.int .i64 (wday t)) ∧ w = w' := by
  go_enter Try.func20, Try.ntmps20
  go_wp2
  go_ret
  exact ⟨rfl, rfl⟩
theorem refWeekday_c (w : World) (t : Int) (h0 : 0 ≤ t) (h1 : t ≤ 18446744073709551615) : Calls Try.prog 21 #[.int .u64 t] w fun e w' => e = .returned (.int .i64 (wday t)) ∧ w = w' := by
  go_enter Try.func21, Try.ntmps21
  go_wp2
  go_ret
  exact ⟨rfl, rfl⟩
theorem week_c (w : World) (t : Int) (h0 : 0 ≤ t) (h1 : t ≤ 18446744073709551615) : Calls Try.prog 22 #[.int .u64 t] w fun e w' => e = .returned (.int .u64 (weekN t)) ∧ w = w' := by
  go_enter Try.func22, Try.ntmps22
  go_wp2
  go_ret
  exact ⟨rfl, rfl⟩
theorem refWeek_c (w : World) (t : Int) (h0 : 0 ≤ t) (h1 : t ≤ 18446744073709551615) : Calls Try.prog 23 #[.int .u64 t] w fun e w' => e = .returned (.int .u64 (weekN t)) ∧ w = w' := by
  go_enter Try.func23, Try.ntmps23
  go_wp2
  go_ret
  exact ⟨rfl, rfl⟩
def sText : ByteArray := ⟨#[50, 48, 48, 48, 45, 48, 49, 45, 48, 49, 84, 48, 48, 58, 48, 48, 58, 48, 48]⟩
def sParse : ByteArray := ⟨#[50, 48, 50, 54, 45, 49, 49, 45, 49, 53, 84, 50, 49, 58, 53, 48, 58, 48, 48]⟩
theorem text0 (w : World) : Calls Try.prog 17 #[.int .u64 0] w fun e w' => e = .returned (.tuple #[.string sText, .int .i64 0]) ∧ Below w.heap.size w w' := by
  refine (text_c w 0 (by omega) (by omega)).mono ?_
  rintro e w' ⟨hA, hb⟩
  have : TextAns 0 (.returned (.tuple #[str (text 2000 1 1 0 0 0), .int .i64 0])) := Or.inl ⟨by omega, 2000, 1, 1, 0, 0, 0, ⟨by unfold Cal.valid; decide, by unfold Cal.vtime; decide, by decide⟩, rfl⟩
  refine ⟨(hA.same this).trans ?_, hb⟩
  have e : str (text 2000 1 1 0 0 0) = .string sText := by unfold str sText; congr 1
  rw [e]
theorem parse0 (w : World) : ∃ x : Int, x % 86400 = 78600 ∧ 0 ≤ x ∧ x ≤ 18446744073709551615 ∧ Calls Try.prog 14 #[.string sParse] w fun e w' => e = .returned (.tuple #[.int .u64 x, .int .i64 0]) ∧ Below w.heap.size w w' := by
  have n0 : nm sParse 0 4 = 2026 := by decide
  have n1 : nm sParse 5 2 = 11 := by decide
  have n2 : nm sParse 8 2 = 15 := by decide
  have n3 : nm sParse 11 2 = 21 := by decide
  have n4 : nm sParse 14 2 = 50 := by decide
  have n5 : nm sParse 17 2 = 0 := by decide
  have hn : Nums sParse := by unfold Nums; rw [n0, n1, n2, n3, n4, n5]; omega
  have hs : Seps sParse := by unfold Seps; decide
  have ht : Cal.tn 2026 11 15 21 50 0 = 848094600 := by decide +kernel
  refine ⟨848094600, by omega, by omega, by omega, (parse_c w sParse).mono ?_⟩
  rintro e w' ⟨hA, hb⟩
  refine ⟨?_, hb⟩
  rcases hA with ⟨_, _, h⟩ | ⟨h, _⟩
  · rw [n0, n1, n2, n3, n4, n5] at h
    rcases h with ⟨_, rfl⟩ | ⟨h, _⟩
    · rw [ht]
    · have : okB 2026 11 15 21 50 0 = true := by decide
      rw [this] at h; cases h
  · exact absurd ⟨hs, hn⟩ h
theorem dim_2100 : Cal.dim 2100 2 = 28 := by decide
theorem wday_0 : wday 0 = 5 := by decide
set_option maxRecDepth 100000 in
set_option maxHeartbeats 2000000 in
theorem alive_c (w : World) : Calls Try.prog 11 #[] w fun e w' => e = .returned (.bool true) ∧ Below w.heap.size w w' := by
  obtain ⟨x, hx, hx0, hx1, _⟩ := parse0 w
  have hp : ∀ w : World, Calls Try.prog 14 #[.string sParse] w fun e w' => ∃ x : Int, x % 86400 = 78600 ∧ 0 ≤ x ∧ x ≤ 18446744073709551615 ∧ e = .returned (.tuple #[.int .u64 x, .int .i64 0]) ∧ Below w.heap.size w w' := fun w => by
    obtain ⟨x, a, b, c, d⟩ := parse0 w
    exact d.mono fun _ _ ⟨e, f⟩ => ⟨x, a, b, c, e, f⟩
  have HP := hid hp
  clear hp hx hx0 hx1
  go_enter Try.func11, Try.ntmps11
  go_wp2_with fail
  refine (text0 _).mono ?_
  rintro e w1 ⟨rfl, hb1⟩
  have L1 := hid hb1
  clear hb1
  go_wp2_with fail
  refine (HP.out _).mono ?_
  rintro e w2 ⟨x, hx, hx0, hx1, rfl, hb2⟩
  have L2 := hid (L1.out.trans (hb2.mono L1.out.size))
  clear hb2
  have e1 := dim_2100
  have e2 := wday_0
  unfold sText
  go_wp2_with (first | (go_at_call 12; refine (days_c _ _ _).mono ?_; rintro e w' ⟨rfl, rfl⟩; rw [e1]) | (go_at_call 20; refine (weekday_c _ _ (by omega) (by omega)).mono ?_; rintro e w' ⟨rfl, rfl⟩; rw [e2]))
  go_ret
  exact ⟨rfl, L2.out⟩
set_option maxRecDepth 100000 in
theorem plain_c (w : World) (y m d h mi s : Int) : Calls Try.prog 10 #[dv y m d h mi s] w fun e w' => e = .returned (dv y m d h mi s) ∧ Below w.heap.size w w' := by
  unfold dv
  go_enter Try.func10, Try.ntmps10
  go_wp2
  refine bodyPost_ret (v := dv y m d h mi s) (by simp [results, Try.results10, go_sem, dv]) rfl ⟨rfl, ?_⟩
  exact ((Below.refl _ _).alloc (Nat.le_refl _) _).alloc (by simp) _
end Go.Proofs.Ythlggjchgngefaa
