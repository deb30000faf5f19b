/- The walk of ClockParse. -/
import Derived.Test.YthlggjchgngefaaAlive
namespace Go.Proofs.Ythlggjchgngefaa
open Go.RowKit

theorem ParseAns.form {s : ByteArray} {e : Ending} (a : ParseAns s e) : ∃ x c : Int, e = .returned (.tuple #[.int .u64 x, .int .i64 c]) ∧ ParseAns s (.returned (.tuple #[.int .u64 x, .int .i64 c])) := by
  rcases a with ⟨h1, h2, h3⟩ | ⟨h, rfl⟩
  · obtain ⟨x, c, rfl, h4⟩ := h3.form
    exact ⟨x, c, rfl, Or.inl ⟨h1, h2, h4⟩⟩
  · exact ⟨_, _, rfl, Or.inr ⟨h, rfl⟩⟩
set_option maxRecDepth 100000 in
set_option maxHeartbeats 2000000 in
theorem parses_walk (w : World) (s : ByteArray) : Calls Try.prog 4 #[.string s] w fun e w' => e = .returned (.bool true) ∧ Below w.heap.size w w' := by
  go_enter Try.func4, Try.ntmps4
  go_wp2_with fail
  · go_wp2_with (go_at_call 11; refine (alive_c _).mono ?_; rintro e w1 ⟨rfl, hb1⟩; have L1 := hid hb1; clear hb1)
    go_ret
    exact ⟨rfl, L1.out⟩
  · refine (parse_c _ _).mono ?_
    rintro e w1 ⟨hA, hb1⟩
    obtain ⟨x, c, rfl, hA'⟩ := hA.form
    have HA := hid hA'
    have L1 := hid hb1
    clear hA hA' hb1
    go_wp2_with fail
    refine (refParse_c _ _).mono ?_
    rintro e w2 ⟨hB, hb2⟩
    obtain rfl := hB.same HA.out
    have L2 := hid (L1.out.trans (hb2.mono L1.out.size))
    clear hB hb2
    go_wp2_with (go_at_call 11; refine (alive_c _).mono ?_; rintro e w3 ⟨rfl, hb3⟩; have L3 := hid hb3; clear hb3)
    go_ret
    exact ⟨rfl, L2.out.trans (L3.out.mono L2.out.size)⟩
end Go.Proofs.Ythlggjchgngefaa
