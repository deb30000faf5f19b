/- The live question. -/
import Derived.Test.YtoegpjfpfhjbkaaShaAbc
import Derived.Lib.SlBytesConst
namespace Go.Proofs.Ytoegpjfpfhjbkaa
open Go.RowKit Go.ChangeMaps

theorem abc_cell (w : World) (j : Nat) : (w.alloc (.cells #[.int .u8 97, .int .u8 98, .int .u8 99] 5 (3, 4))).cell? ⟨w.heap.size, j, none⟩ = (#[Value.int .u8 97, .int .u8 98, .int .u8 99] : Array Value)[j]? :=
  cell_of_row _ _ _ _ _ (3, 4) (heap_alloc_new w _)
theorem abc_bytes (w : World) : Bytes (w.alloc (.cells #[.int .u8 97, .int .u8 98, .int .u8 99] 5 (3, 4))) (.slice (some ⟨w.heap.size, 0, none⟩) 3 3) abc :=
  ⟨_, 3, rfl, fun _ => ⟨w.heap.size, 0, rfl, by simp, Nat.le_refl _, by simp [maxLen], fun i hi => by
    have h : i = 0 ∨ i = 1 ∨ i = 2 := by have : i < 3 := hi; omega
    rcases h with rfl | rfl | rfl
    · exact abc_cell w 0
    · exact abc_cell w 1
    · exact abc_cell w 2⟩⟩
theorem Fn.storeAll' {w : World} {b n : Nat} {T : TypeId} {f g : Nat → Value} (h : Fn w b T n f) {zs : Array Value} (hz : zs = Go.Proofs.Ytoegpjfpfhjbkaa.arr n g) : Fn (w.setCells b 0 zs.toList) b T n g := by subst hz; exact h.storeAll g
theorem Fn.range' {w : World} {b n : Nat} {T : TypeId} {f : Nat → Value} (h : Fn w b T n f) (zs : Array Value) (hz : zs.size = n) (hf : ∀ j, j < n → zs[j]? = some (f j)) : w.rangeAt b 0 zs.toList := by
  intro j v hv
  have hj : j < n := by rw [← hz]; simpa using (List.getElem?_eq_some_iff.1 hv).1
  rw [Array.getElem?_toList, hf j hj] at hv
  rw [Nat.zero_add, h.cell hj]; exact hv

set_option maxRecDepth 100000 in
set_option maxHeartbeats 2000000 in
theorem alive_c (w : World) : Calls Try.prog 9 #[] w fun e w' => e = .returned (.bool true) ∧ Below w.heap.size w w' := by
  have B0 := hid (abc_bytes w)
  have L0 := hid ((Below.refl w.heap.size w).alloc (Nat.le_refl _) (.cells #[.int .u8 97, .int .u8 98, .int .u8 99] 5 (3, 4)))
  obtain ⟨zs, hzs⟩ : ∃ zs : Array Value, zs = arr 32 (fun i => .int .u8 (ub (shaB abc i))) := ⟨_, rfl⟩
  have hz0 : zs.size = 32 := by rw [hzs, arr_size]
  have hz1 := hid (show zs.all (·.oneCell') = true by rw [hzs]; exact one_arr)
  have hz2 := hid (show (Try.prog.info? 23).map (·.size) = some zs.size by rw [hz0]; kernel_rfl)
  have hz4 := hid (show (Try.prog.info? 23).map (·.size) = some zs.toList.length by rw [Array.length_toList, hz0]; kernel_rfl)
  have HZ := hid hzs
  clear hzs
  have hcv : (convert 22 22 (.slice (some ⟨w.heap.size, 0, none⟩) 3 3)).run Try.prog (w.alloc (.cells #[.int .u8 97, .int .u8 98, .int .u8 99] 5)) = .ok (.slice (some ⟨w.heap.size, 0, none⟩) 3 3) (w.alloc (.cells #[.int .u8 97, .int .u8 98, .int .u8 99] 5 (3, 4))) :=
    Lib.run_convert_bytes_const w 22 5 #[.int .u8 97, .int .u8 98, .int .u8 99] 3 3 Try.underlying22 Try.underlying5
  go_enter Try.func9, Try.ntmps9
  go_wp2_with first
    | (go_at_call 12; refine (text_c _ zs hz0 (shaB abc) (fun i hi => by rw [HZ.out]; exact arr_get _ _ hi)).mono ?_; rintro e w3 ⟨rfl, L3⟩; have L3' := hid (L2.out.trans (L3.mono L2.out.size)); have F3 := hid (F2.out.below L3 F2.out.lt); clear L3; rw [abc_text]; have x31 : w3.cell? ⟨w1.heap.size, 31, none⟩ = some (.int .u8 173) := (by have := F3.out.cell (j := 31) (by omega); simp only [abc_last] at this; exact this); have xl := F3.out.lt)
    | (refine wpList_load_mid rfl 23 (.tmp 1) rfl w1.heap.size 0 rfl zs.toList _ R2.out Try.underlying23 rfl hz4.out ?_)
    | (refine wpList_store_mid rfl 23 (.tmp 1) (.tmp 4) rfl w1.heap.size 0 zs rfl rfl (there_set F1.out hz0) hz2.out hz1.out ?_; have F2 := hid (F1.out.storeAll' HZ.out); have L2 := hid ((Mod.setCells (S := fun k => w.heap.size ≤ k) zs.toList 0 _ (ML.out.alloc (.cells (arr 32 (fun _ => .int .u8 0)) 23)) (fun h => L1.out.size)).below (Nat.le_refl _) (fun k hk h => by omega)); have R2 := hid (F2.out.range' zs hz0 (fun j hj => by rw [HZ.out]; exact arr_get _ _ hj)))
    | (go_at_call 10; refine (shaSum_c B0.out (fun k hk => by cases hk; simp) (by decide)).mono ?_; rintro e w1 ⟨rfl, L1'⟩; have L1 := hid (L0.out.trans (L1'.mono (by simp))); have F1 := hid (Fn.arr w1 23 32 (fun _ => .int .u8 0)); have ML := hid (show Mod (fun k => w.heap.size ≤ k) w w1 from ⟨L1.out.os, L1.out.tape, L1.out.output, L1.out.size, fun k hk _ => L1.out.block k hk⟩); clear L1'; rw [← HZ.out])
  go_ret
  exact ⟨rfl, L3'.out⟩
end Go.Proofs.Ytoegpjfpfhjbkaa
