/- The document's first numbers and its steps' numbers. -/
import Derived.Test.YtkehejkjifgieaaRefBlock
namespace Go.Proofs.Ytkehejkjifgieaa
open Go.RowKit Go.ChangeMaps

set_option maxRecDepth 100000 in
set_option maxHeartbeats 1000000 in
theorem rstart_c (w : World) : Calls Try.prog 73 #[] w fun e w' => e = .returned (.agg (u32s 8 start.get)) ∧ Below w.heap.size w w' := by
  have L := hid ((Below.refl w.heap.size w).alloc (Nat.le_refl _) (.cells (u32s 8 start.get) 123))
  go_enter Try.func73, Try.ntmps73
  go_wp2
  refine bodyPost_ret (v := .agg (u32s 8 start.get)) (results_cell_row (t := 123) (fr := (0, 0)) rfl _ _ w.heap.size _ _ rfl (Blk.new w (u32s 8 start.get) 123) Try.underlying123 rfl (by unfold u32s; rw [arr_size]; kernel_rfl)) rfl ?_
  exact ⟨rfl, L.out⟩
set_option maxRecDepth 100000 in
set_option maxHeartbeats 1000000 in
theorem rsteps_c (w : World) : Calls Try.prog 74 #[] w fun e w' => e = .returned (.slice (some ⟨w.heap.size, 0, none⟩) 64 64) ∧ w.heap.size < w'.heap.size ∧ Wds w' w.heap.size 64 kAt ∧ Below w.heap.size w w' := by
  have L := hid ((Below.refl w.heap.size w).alloc (Nat.le_refl _) (.cells kArr 63))
  go_enter Try.func74, Try.ntmps74
  go_wp2
  go_ret
  refine ⟨rfl, by simp, fun i hi => ?_, L.out⟩
  exact (Fn.new w kArr 63 (n := 64) (f := fun i => .int .u32 (u (kAt i))) (by rw [kArr_eq, arr_size]) (fun j hj => by rw [kArr_eq]; exact arr_get _ _ hj)).cell hi
end Go.Proofs.Ytkehejkjifgieaa
