/- A map's New and Copy. -/
import Derived.Test.YtdmlldhlfofegaaDoorKeep
namespace Go.Proofs.YtdmlldhlfofegaaDoor
open Go.RowKit

set_option maxRecDepth 100000 in
set_option maxHeartbeats 2000000 in
theorem nine (w : World) (n : Int) (T : TypeId) (hT : T = 64) : MapAt (w.alloc (.cells #[.int .i64 n, .int .u64 0, .int .u64 0, .int .u64 0, .int .u64 0, .int .u64 0, .int .u64 0, .int .u64 0, .int .u64 0] T)) w.heap.size n (labX 0) := by
  subst hT
  exact Fn.new w _ _ rfl (fun j hj => by
    have hc : j = 0 ∨ j = 1 ∨ j = 2 ∨ j = 3 ∨ j = 4 ∨ j = 5 ∨ j = 6 ∨ j = 7 ∨ j = 8 := by omega
    rcases hc with rfl | rfl | rfl | rfl | rfl | rfl | rfl | rfl | rfl <;> rfl)
theorem new_no (w : World) (n : Int) (h : n < 16 ∨ 512 < n) : Calls Tryd.prog 8 #[.int .i64 n] w fun e w' => e = .returned (.tuple #[.pointer none, .int .i64 1]) ∧ w = w' := by
  rcases h with h | h
  · go_enter Tryd.func8, Tryd.ntmps8
    go_wp2
    go_ret2
    exact ⟨rfl, rfl⟩
  · have h' : ¬ n < 16 := by omega
    go_enter Tryd.func8, Tryd.ntmps8
    go_wp2
    go_ret2
    exact ⟨rfl, rfl⟩
set_option maxRecDepth 100000 in
set_option maxHeartbeats 2000000 in
theorem new_yes (w : World) (n : Nat) (h1 : 16 ≤ n) (h2 : n ≤ 512) : Calls Tryd.prog 8 #[.int .i64 n] w fun e w' => ∃ b, w.heap.size ≤ b ∧ e = .returned (.tuple #[.pointer (some ⟨b, 0, none⟩), .int .i64 0]) ∧ MapAt w' b n (labX 4) ∧ Below w.heap.size w w' := by
  go_enter Tryd.func8, Tryd.ntmps8
  go_wp2_with fail
  have M0 := (show MapAt (w.alloc (.cells #[.int .i64 n, .int .u64 0, .int .u64 0, .int .u64 0, .int .u64 0, .int .u64 0, .int .u64 0, .int .u64 0, .int .u64 0] 64)) w.heap.size n (labX 0) from nine w _ _ rfl)
  refine (keep_c M0 h2 none 0 0 (fun _ => 0) (fun i hi => by omega) (fun h => by omega) (by simp [maxLen])).mono ?_
  rintro e w2 ⟨rfl, hM, hR⟩
  have M2 := hid hM
  have R2 := hid hR
  clear hM hR M0
  go_wp2_with fail
  go_ret2
  exact ⟨w.heap.size, Nat.le_refl _, rfl, M2.out, (((Mod.refl (fun k => k = w.heap.size) w).alloc _).trans R2.out).below (Nat.le_refl _) (fun k hk e => by omega)⟩
set_option maxRecDepth 100000 in
set_option maxHeartbeats 2000000 in
theorem copy_c {w : World} {b n : Nat} {X : Nat → W64} (M : MapAt w b n X) : Calls Tryd.prog 10 #[.pointer (some ⟨b, 0, none⟩)] w fun e w' => ∃ c, w.heap.size ≤ c ∧ e = .returned (.pointer (some ⟨c, 0, none⟩)) ∧ MapAt w' c n X ∧ Below w.heap.size w w' := by
  have c0 : w.cell? ⟨b, 0, none⟩ = some (.int .i64 n) := M.len
  have c1 : w.cell? ⟨b, 1, none⟩ = some (.int .u64 (v (X 0))) := M.word (k := 0) (by omega)
  have c2 : w.cell? ⟨b, 2, none⟩ = some (.int .u64 (v (X 1))) := M.word (k := 1) (by omega)
  have c3 : w.cell? ⟨b, 3, none⟩ = some (.int .u64 (v (X 2))) := M.word (k := 2) (by omega)
  have c4 : w.cell? ⟨b, 4, none⟩ = some (.int .u64 (v (X 3))) := M.word (k := 3) (by omega)
  have c5 : w.cell? ⟨b, 5, none⟩ = some (.int .u64 (v (X 4))) := M.word (k := 4) (by omega)
  have c6 : w.cell? ⟨b, 6, none⟩ = some (.int .u64 (v (X 5))) := M.word (k := 5) (by omega)
  have c7 : w.cell? ⟨b, 7, none⟩ = some (.int .u64 (v (X 6))) := M.word (k := 6) (by omega)
  have c8 : w.cell? ⟨b, 8, none⟩ = some (.int .u64 (v (X 7))) := M.word (k := 7) (by omega)
  clear M
  go_enter Tryd.func10, Tryd.ntmps10
  go_wp2
  go_ret
  refine ⟨w.heap.size, Nat.le_refl _, rfl, ?_, (Below.refl _ _).alloc (Nat.le_refl _) _⟩
  exact Fn.new w _ _ rfl (fun j hj => by
    have hc : j = 0 ∨ j = 1 ∨ j = 2 ∨ j = 3 ∨ j = 4 ∨ j = 5 ∨ j = 6 ∨ j = 7 ∨ j = 8 := by omega
    rcases hc with rfl | rfl | rfl | rfl | rfl | rfl | rfl | rfl | rfl <;> rfl)
end Go.Proofs.YtdmlldhlfofegaaDoor
