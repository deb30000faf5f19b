/- One hash of no hash, and of one: the document's Tree. -/
import Derived.Test.YtoegpjfpfhjbkaaTree0
import Derived.Test.YtoegpjfpfhjbkaaJoined
namespace Go.Proofs.Ytoegpjfpfhjbkaa
open Go.RowKit Go.ChangeMaps

set_option maxRecDepth 100000 in
set_option maxHeartbeats 1000000 in
theorem rtree_0 (w : World) (p : Option Addr) (cap : Nat) :
    Calls Try.prog 20 #[.slice p 0 cap] w fun e w' => e = .returned (.agg (hv (fun _ => 0))) ∧ Below w.heap.size w w' := by
  obtain ⟨zs, hzs⟩ : ∃ zs, zs = hv (fun _ => 0) := ⟨_, rfl⟩
  have hz : ∀ W : World, (zeroValue 23).run Try.prog W = .ok (.agg zs) W := by rw [hzs]; exact fun _ => rfl
  obtain ⟨w1, hw1⟩ : ∃ w1, w1 = w.alloc (.cells zs 23) := ⟨_, rfl⟩
  have L1 := hid (show Below w.heap.size w w1 by rw [hw1]; exact (Below.refl w.heap.size w).alloc (Nat.le_refl _) _)
  have Z1 := hid (show Fn w1 w.heap.size 23 32 (fun i => .int .u8 0) by rw [hw1, hzs]; exact Fn.arr w _ 32 _)
  have hzz : zs.size = 32 := by rw [hzs]; exact arr_size _ _
  have HZ := hid hzs
  clear hzs
  go_enter Try.func20, Try.ntmps20
  go_upto_region 2 with fail
  rw [← hw1]
  clear hw1
  go_wp2_with (refine wpList_store_mid rfl 23 (.tmp 2) (.tmp 9) rfl w.heap.size 0 zs rfl rfl (there_set Z1.out hzz) (by rw [hzz]; kernel_rfl) (by rw [HZ.out]; exact one_arr) ?_)
  rw [HZ.out]
  exact tree_end L1.out (Z1.out.storeAll (fun i => .int .u8 (ub ((fun _ => 0 : Nat → W8) i)))) rfl rfl rfl
theorem rtree_1 {w : World} {p : Option Addr} {cap : Nat} {X : Nat → Nat → W8} (hL : Lv w p 1 cap X) :
    Calls Try.prog 20 #[.slice p 1 cap] w fun e w' => e = .returned (.agg (hv (X 0))) ∧ Below w.heap.size w w' := by
  obtain ⟨zs, hzs⟩ : ∃ zs, zs = hv (fun _ => 0) := ⟨_, rfl⟩
  have hz : ∀ W : World, (zeroValue 23).run Try.prog W = .ok (.agg zs) W := by rw [hzs]; exact fun _ => rfl
  obtain ⟨w1, hw1⟩ : ∃ w1, w1 = w.alloc (.cells zs 23) := ⟨_, rfl⟩
  have L1 := hid (show Below w.heap.size w w1 by rw [hw1]; exact (Below.refl w.heap.size w).alloc (Nat.le_refl _) _)
  have Z1 := hid (show Fn w1 w.heap.size 23 32 (fun i => .int .u8 0) by rw [hw1, hzs]; exact Fn.arr w _ 32 _)
  have hzz : zs.size = 32 := by rw [hzs]; exact arr_size _ _
  obtain ⟨b, off, hp, hb, _⟩ := hL.2.2 (by decide)
  subst hp
  have HL := hid (hL.below L1.out)
  clear hL hzs
  go_enter Try.func20, Try.ntmps20
  go_upto_region 4 with fail
  rw [← hw1]
  clear hw1
  have R1 := HL.out.range (by decide)
  go_wp2_with (first
    | (refine wpList_load_mid rfl 23 (.tmp 14) rfl b off rfl (hv (X 0)).toList _ R1 Try.underlying23 rfl (by kernel_rfl) ?_)
    | (refine wpList_store_mid rfl 23 (.tmp 2) (.tmp 15) rfl w.heap.size 0 (hv (X 0)) rfl rfl (there_set Z1.out (arr_size _ _)) (by unfold hv; rw [arr_size]; kernel_rfl) one_arr ?_))
  exact tree_end L1.out (Z1.out.storeAll (fun i => .int .u8 (ub (X 0 i)))) rfl rfl rfl
end Go.Proofs.Ytoegpjfpfhjbkaa
