/- A map's small calls: Used, Give, Copy, Keep, New. -/
import Derived.Test.YtdmlldhlfofegaaDoorBits
import Derived.Deep.QuietTactic
namespace Go.Proofs.YtdmlldhlfofegaaDoor
open Go.RowKit

set_option maxRecDepth 100000 in
set_option maxHeartbeats 1000000 in
theorem used_yes {w : World} {b n : Nat} {X : Nat → W64} (M : MapAt w b n X) (i : Int) (hi : i < 0 ∨ (n : Int) ≤ i) : Calls Tryd.prog 13 #[.pointer (some ⟨b, 0, none⟩), .int .i64 i] w fun e w' => e = .returned (.bool true) ∧ w = w' := by
  have HM := hid M
  clear M
  rcases hi with hi | hi
  · go_enter Tryd.func13, Tryd.ntmps13
    go_wp2_with (go_at_call 25; refine (len_c HM.out).mono ?_; rintro e w' ⟨rfl, rfl⟩)
    go_ret
    exact ⟨rfl, rfl⟩
  · have hi' : ¬ i < 0 := by omega
    go_enter Tryd.func13, Tryd.ntmps13
    go_wp2_with (go_at_call 25; refine (len_c HM.out).mono ?_; rintro e w' ⟨rfl, rfl⟩)
    go_ret
    exact ⟨rfl, rfl⟩
set_option maxRecDepth 100000 in
set_option maxHeartbeats 1000000 in
theorem used_in {w : World} {b n : Nat} {X : Nat → W64} (M : MapAt w b n X) (i : Nat) (hi : i < n) (hn : n ≤ 512) : Calls Tryd.prog 13 #[.pointer (some ⟨b, 0, none⟩), .int .i64 i] w fun e w' => e = .returned (.bool (used X i)) ∧ w = w' := by
  have c : w.cell? ⟨b, 1 + i / 64, none⟩ = some (.int .u64 (v (X (i / 64)))) := M.word (by omega)
  have HM := hid M
  clear M
  have hi2 : (i : Int) < (n : Int) := by omega
  have hi3 : (0 : Int) ≤ (i : Int) := by omega
  go_enter Tryd.func13, Tryd.ntmps13
  go_wp2_with (go_at_call 25; refine (len_c HM.out).mono ?_; rintro e w' ⟨rfl, rfl⟩)
  go_ret
  refine ⟨ret_bool ?_, rfl⟩
  rw [bit_test, decide_eq_false (by omega), decide_eq_false (by omega)]
  rfl
set_option maxRecDepth 100000 in
set_option maxHeartbeats 1000000 in
theorem give_no {w : World} {b n : Nat} {X : Nat → W64} (M : MapAt w b n X) (i : Nat) (hi : i < 4294967296) (hn : n ≤ 512) (h : i < 4 ∨ n ≤ i ∨ used X i = false) : Calls Tryd.prog 14 #[.pointer (some ⟨b, 0, none⟩), .int .u32 i] w fun e w' => e = .returned (.int .i64 1) ∧ w = w' := by
  have c := M.len
  have HM := hid M
  clear M
  by_cases h4 : i < 4
  · clear h
    go_enter Tryd.func14, Tryd.ntmps14
    go_wp2
    go_ret
    exact ⟨rfl, rfl⟩
  · by_cases hin : n ≤ i
    · clear h
      go_enter Tryd.func14, Tryd.ntmps14
      go_wp2
      go_ret
      exact ⟨rfl, rfl⟩
    · have hu : used X i = false := by
        rcases h with h | h | h
        · omega
        · omega
        · exact h
      clear h
      go_enter Tryd.func14, Tryd.ntmps14
      go_wp2_with (go_at_call 13; refine (used_in HM.out i (by omega) hn).mono ?_; rintro e w' ⟨rfl, rfl⟩; rw [hu])
      go_ret
      exact ⟨rfl, rfl⟩
set_option maxRecDepth 100000 in
set_option maxHeartbeats 1000000 in
theorem give_yes {w : World} {b n : Nat} {X : Nat → W64} (M : MapAt w b n X) (i : Nat) (h4 : 4 ≤ i) (hin : i < n) (hn : n ≤ 512) (hu : used X i = true) : Calls Tryd.prog 14 #[.pointer (some ⟨b, 0, none⟩), .int .u32 i] w fun e w' => e = .returned (.int .i64 0) ∧ MapAt w' b n (clrX X i) ∧ Mod (fun k => k = b) w w' := by
  have c := M.len
  have c1 : w.cell? ⟨b, 1 + i / 64, none⟩ = some (.int .u64 (v (X (i / 64)))) := M.word (by omega)
  have f : w.frozen? ⟨b, 1 + i / 64, none⟩ = false := M.frozen _
  have HM := hid M
  have HU := hid hu
  clear M hu
  go_enter Tryd.func14, Tryd.ntmps14
  go_wp2_with (go_at_call 13; refine (used_in HM.out i (by omega) hn).mono ?_; rintro e w' ⟨rfl, rfl⟩; rw [HU.out])
  go_region
  go_wp2
  go_ret
  rw [v_one _ (by omega), v_andNot]
  exact ⟨rfl, (HM.out.put (i / 64) _).of_block rfl, ((Mod.refl (fun k => k = b) w).setCell (p := ⟨b, 1 + i / 64, none⟩) (fun _ => rfl) _).drew⟩
end Go.Proofs.YtdmlldhlfofegaaDoor
