/- No timers: the walk of TimerNil. -/
import Derived.Test.YtfolgjgkeheaoaaAlive
namespace Go.Proofs.Ytfolgjgkeheaoaa
open Go.RowKit Go.ChangeMaps

theorem set_nil (w : World) (id at_ : Int) : Calls Try.prog 8 #[.pointer none, .int .u32 id, .int .u64 at_] w fun e w' => e = .returned (.int .i64 1) ∧ w' = w := by
  go_enter Try.func8, Try.ntmps8
  go_wp2
  go_ret
  exact ⟨rfl, rfl⟩
set_option maxRecDepth 100000 in
theorem due_nil (w : World) (now many : Int) : Calls Try.prog 12 #[.pointer none, .int .u64 now, .int .i64 many] w fun e w' => e = .returned (.slice none 0 0) ∧ w' = w := by
  go_enter Try.func12, Try.ntmps12
  go_wp2
  go_loopg [7, 8, 9, 10] 0 (fun g v _ _ _ wr => v = .slice none 0 0 ∧ wr = w)
  case atStart => exact ⟨rfl, rfl⟩
  case round =>
    obtain ⟨rfl, rfl⟩ := hrel
    by_cases hk : 0 < many
    · go_wp2_with (go_at_call 11; refine (next_nil _).mono ?_; rintro e w1 ⟨rfl, rfl⟩)
      go_ret
      exact ⟨rfl, rfl⟩
    · go_wp2
      go_ret
      exact ⟨rfl, rfl⟩
set_option maxRecDepth 100000 in
set_option maxHeartbeats 1000000 in
theorem timerNil_w {w : World} (a0 : Int) (_ : (Lit.int .u32 a0).wf = true) (a1 : Int) (_ : (Lit.int .u64 a1).wf = true) (a2 : Int) (_ : (Lit.int .i64 a2).wf = true) :
    Calls Try.prog 6 #[.int .u32 a0, .int .u64 a1, .int .i64 a2] w fun e w' => e = .returned (.bool true) ∧ Below w.heap.size w w' := by
  go_enter Try.func6, Try.ntmps6
  go_wp2_with first
    | (go_at_call 10; refine (len_nil _).mono ?_; rintro e w5 ⟨rfl, rfl⟩)
    | (go_at_call 12; refine (due_nil _ _ _).mono ?_; rintro e w5 ⟨rfl, rfl⟩)
    | (go_at_call 15; refine (cancel_nil _ _).mono ?_; rintro e w5 ⟨rfl, rfl⟩)
    | (go_at_call 8; refine (set_nil _ _ _).mono ?_; rintro e w5 ⟨rfl, rfl⟩)
    | (go_at_call 9; refine (alive_c _).mono ?_; rintro e w2 ⟨rfl, hb⟩; have B := hid hb; clear hb)
    | (go_at_call 11; refine (next_nil _).mono ?_; rintro e w1 ⟨rfl, rfl⟩)
    | (go_at_call 13; refine (at_nil _ _).mono ?_; rintro e w1 ⟨rfl, rfl⟩)
  go_ret
  exact ⟨rfl, B.out⟩
end Go.Proofs.Ytfolgjgkeheaoaa
