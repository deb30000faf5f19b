/- No hash: the walk of ShaNil. -/
import Derived.Test.YtoegpjfpfhjbkaaPieces
import Derived.Test.YtoegpjfpfhjbkaaLaw
namespace Go.Proofs.Ytoegpjfpfhjbkaa
open Go.RowKit Go.ChangeMaps

theorem zeros_eq (W : World) : (zeroValue 23).run Try.prog W = .ok (.agg (arr 32 (fun _ => .int .u8 (ub 0)))) W := by rfl
set_option maxRecDepth 100000 in
set_option maxHeartbeats 2000000 in
theorem sum_nil (w : World) : Calls Try.prog 16 #[.pointer none] w fun e w' => e = .returned (.agg (arr 32 (fun _ => .int .u8 (ub 0)))) ∧ Below w.heap.size w w' := by
  obtain ⟨zs, hzs⟩ : ∃ zs, zs = arr 32 (fun _ => .int .u8 (ub 0)) := ⟨_, rfl⟩
  have hz : ∀ W : World, (zeroValue 23).run Try.prog W = .ok (.agg zs) W := by rw [hzs]; exact zeros_eq
  have hz0 : zs.size = 32 := by rw [hzs, arr_size]
  have hz1 := hid (show zs.all (·.oneCell') = true by rw [hzs]; exact one_arr)
  have hz2 := hid (show (Try.prog.info? 23).map (·.size) = some zs.size by rw [hz0]; kernel_rfl)
  have E1 := hid (show Fn (w.alloc (.cells zs 23)) w.heap.size 23 32 (fun _ => .int .u8 (ub 0)) by rw [hzs]; exact Fn.arr w 23 32 _)
  have HZ := hid hzs
  clear hzs
  go_enter Try.func16, Try.ntmps16
  go_wp2_with (refine wpList_store_mid rfl 23 (.tmp 2) (.tmp 10) rfl w.heap.size 0 zs rfl rfl (there_set E1.out hz0) hz2.out hz1.out ?_)
  obtain ⟨cs9, g1, g2, g3⟩ := E1.out.storeAll' HZ.out
  have hcs9 := arr_ext g2 g3
  subst hcs9
  refine bodyPost_ret (v := .agg (arr 32 (fun _ => .int .u8 (ub 0)))) (results_cell_row (t := 23) (fr := (0, 0)) rfl _ _ w.heap.size _ _ rfl g1 Try.underlying23 rfl (by rw [arr_size]; kernel_rfl)) rfl ?_
  exact ⟨rfl, (Mod.setCells (S := fun k => w.heap.size ≤ k) _ 0 _ ((Mod.refl _ w).alloc _) (fun hh => Nat.le_refl _)).below (Nat.le_refl _) (fun k hk hh => by omega)⟩
set_option maxRecDepth 100000 in
set_option maxHeartbeats 2000000 in
theorem tree_nil (w : World) : Calls Try.prog 19 #[.slice none 0 0] w fun e w' => e = .returned (.agg (arr 32 (fun _ => .int .u8 (ub 0)))) ∧ Below w.heap.size w w' := by
  obtain ⟨zs, hzs⟩ : ∃ zs, zs = arr 32 (fun _ => .int .u8 (ub 0)) := ⟨_, rfl⟩
  have hz : ∀ W : World, (zeroValue 23).run Try.prog W = .ok (.agg zs) W := by rw [hzs]; exact zeros_eq
  have hz0 : zs.size = 32 := by rw [hzs, arr_size]
  have hz1 := hid (show zs.all (·.oneCell') = true by rw [hzs]; exact one_arr)
  have hz2 := hid (show (Try.prog.info? 23).map (·.size) = some zs.size by rw [hz0]; kernel_rfl)
  have E1 := hid (show Fn (w.alloc (.cells zs 23)) w.heap.size 23 32 (fun _ => .int .u8 (ub 0)) by rw [hzs]; exact Fn.arr w 23 32 _)
  have HZ := hid hzs
  clear hzs
  go_enter Try.func19, Try.ntmps19
  go_wp2_with (refine wpList_store_mid rfl 23 (.tmp 2) (.tmp 10) rfl w.heap.size 0 zs rfl rfl (there_set E1.out hz0) hz2.out hz1.out ?_)
  obtain ⟨cs9, g1, g2, g3⟩ := E1.out.storeAll' HZ.out
  have hcs9 := arr_ext g2 g3
  subst hcs9
  refine bodyPost_ret (v := .agg (arr 32 (fun _ => .int .u8 (ub 0)))) (results_cell_row (t := 23) (fr := (0, 0)) rfl _ _ w.heap.size _ _ rfl g1 Try.underlying23 rfl (by rw [arr_size]; kernel_rfl)) rfl ?_
  exact ⟨rfl, (Mod.setCells (S := fun k => w.heap.size ≤ k) _ 0 _ ((Mod.refl _ w).alloc _) (fun hh => Nat.le_refl _)).below (Nat.le_refl _) (fun k hk hh => by omega)⟩
set_option maxRecDepth 100000 in
set_option maxHeartbeats 2000000 in
theorem nil_walk (v : Value) (w : World) : Calls Try.prog 8 #[v] w fun e w' => e = .returned (.bool true) ∧ Below w.heap.size w w' := by
  obtain ⟨zs, hzs⟩ : ∃ zs, zs = arr 32 (fun _ => .int .u8 (ub 0)) := ⟨_, rfl⟩
  have hz : ∀ W : World, (zeroValue 23).run Try.prog W = .ok (.agg zs) W := by rw [hzs]; exact zeros_eq
  have heq : ∀ W : World, (Op.equalIn 10000 23 (.agg zs) (.agg zs)).run Try.prog W = .ok true W := by rw [hzs]; exact eq32_same _
  have HZ := hid hzs
  clear hzs
  go_enter Try.func8, Try.ntmps8
  go_wp2_with first
    | (go_at_call 19; refine (tree_nil _).mono ?_; rintro e w5 ⟨rfl, Lx⟩; have L5 := hid (L4.out.trans (Lx.mono L4.out.size)); clear Lx; rw [← HZ.out])
    | (go_at_call 16; refine (sum_nil _).mono ?_; rintro e w4 ⟨rfl, Lx⟩; have L4 := hid (L3.out.trans (Lx.mono L3.out.size)); clear Lx; rw [← HZ.out])
    | (go_at_call 9; refine (alive_c _).mono ?_; rintro e w3 ⟨rfl, Lx⟩; have L3 := hid Lx; clear Lx)
    | (go_at_call 15; refine (write_nil _ _).mono ?_; rintro e w2 ⟨rfl, rfl⟩)
  go_ret
  exact ⟨rfl, L5.out⟩
theorem shaNil_w {H : Type} {enc : TypeId × Value → H} {W : World} {base : Nat} {v : Value} {d : DataW H} {ps : List MemPlace} (_ : Value.okWide Try.prog W .any base 22 v) (_ : DataW.Trod enc Try.prog W 0 (fun _ => true) true 22 v d ps) :
    Calls Try.prog 8 #[v] W fun e w' => e = .returned (.bool true) ∧ Below W.heap.size W w' := nil_walk v W
end Go.Proofs.Ytoegpjfpfhjbkaa
