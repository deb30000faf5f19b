/- Sectors that are not taken; a map that is none. -/
import Derived.Test.YtdmlldhlfofegaaDoorTake
namespace Go.Proofs.YtdmlldhlfofegaaDoor
open Go.RowKit

set_option maxRecDepth 100000 in
set_option maxHeartbeats 1000000 in
theorem take_arg (w : World) (b : Nat) (k : Int) (h : k < 0 ∨ 8 < k) : Calls Tryd.prog 12 #[.pointer (some ⟨b, 0, none⟩), .int .i64 k] w fun e w' => e = .returned (.tuple #[.slice none 0 0, .int .i64 1]) ∧ w = w' := by
  rcases h with h | h
  · go_enter Tryd.func12, Tryd.ntmps12
    go_wp2
    go_ret2
    exact ⟨rfl, rfl⟩
  · have h' : ¬ k < 0 := by omega
    go_enter Tryd.func12, Tryd.ntmps12
    go_wp2
    go_ret2
    exact ⟨rfl, rfl⟩
set_option maxRecDepth 100000 in
set_option maxHeartbeats 1000000 in
theorem take_full {w : World} {b n : Nat} {X : Nat → W64} (M : MapAt w b n X) (hn : n ≤ 512) (ht : Tight n X) (k : Nat) (hk : k ≤ 8) (hf : (frees (used X) n).length < k) : Calls Tryd.prog 12 #[.pointer (some ⟨b, 0, none⟩), .int .i64 k] w fun e w' => e = .returned (.tuple #[.slice none 0 0, .int .i64 7]) ∧ w = w' := by
  have hlen := frees_len (used X) n
  have FC := hid (free_c M hn ht)
  have hfr : (n : Int) - (cnt (used X) n : Nat) < (k : Int) := by omega
  clear M ht hf hlen
  generalize hcn : (n : Int) - (cnt (used X) n : Nat) = fr at *
  clear hcn
  go_enter Tryd.func12, Tryd.ntmps12
  go_wp2_with (go_at_call 11; refine FC.out.mono ?_; rintro e w' ⟨rfl, rfl⟩)
  go_ret2
  exact ⟨rfl, rfl⟩
set_option maxRecDepth 100000 in
theorem take_nil (w : World) (k : Int) : Calls Tryd.prog 12 #[.pointer none, .int .i64 k] w fun e w' => e = .returned (.tuple #[.slice none 0 0, .int .i64 1]) ∧ w = w' := by
  go_enter Tryd.func12, Tryd.ntmps12
  go_wp2
  go_ret2
  exact ⟨rfl, rfl⟩
set_option maxRecDepth 100000 in
theorem keep_nil (w : World) (s : Value) : Calls Tryd.prog 19 #[.pointer none, s] w fun e w' => e = .returned (.tuple #[]) ∧ w = w' := by
  go_enter Tryd.func19, Tryd.ntmps19
  go_wp2
  exact bodyPost_ret (results_none rfl _ _ _) rfl ⟨rfl, rfl⟩
set_option maxRecDepth 100000 in
theorem give_nil (w : World) (k : Int) (h0 : 0 ≤ k) (h1 : k ≤ 4294967295) : Calls Tryd.prog 14 #[.pointer none, .int .u32 k] w fun e w' => e = .returned (.int .i64 1) ∧ w = w' := by
  go_enter Tryd.func14, Tryd.ntmps14
  go_wp2
  go_ret
  exact ⟨rfl, rfl⟩
set_option maxRecDepth 100000 in
theorem used_nil (w : World) (k : Int) : Calls Tryd.prog 13 #[.pointer none, .int .i64 k] w fun e w' => e = .returned (.bool true) ∧ w = w' := by
  by_cases h : k < 0
  · go_enter Tryd.func13, Tryd.ntmps13
    go_wp2_with (go_at_call 25; refine (len_nil _).mono ?_; rintro e w' ⟨rfl, rfl⟩)
    go_ret
    exact ⟨rfl, rfl⟩
  · have h' : 0 ≤ k := by omega
    go_enter Tryd.func13, Tryd.ntmps13
    go_wp2_with (go_at_call 25; refine (len_nil _).mono ?_; rintro e w' ⟨rfl, rfl⟩)
    go_ret
    exact ⟨rfl, rfl⟩
set_option maxRecDepth 100000 in
theorem bytes_nil (w : World) : Calls Tryd.prog 16 #[.pointer none] w fun e w' => e = .returned (.slice none 0 0) ∧ w = w' := by
  go_enter Tryd.func16, Tryd.ntmps16
  go_wp2
  go_ret
  exact ⟨rfl, rfl⟩
set_option maxRecDepth 100000 in
theorem copy_nil (w : World) : Calls Tryd.prog 10 #[.pointer none] w fun e w' => e = .returned (.pointer none) ∧ w = w' := by
  go_enter Tryd.func10, Tryd.ntmps10
  go_wp2
  go_ret
  exact ⟨rfl, rfl⟩
end Go.Proofs.YtdmlldhlfofegaaDoor
