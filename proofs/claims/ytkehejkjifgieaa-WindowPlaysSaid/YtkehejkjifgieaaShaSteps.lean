/- The steps' numbers. -/
import Derived.Test.YtkehejkjifgieaaShaLoad
import Derived.Deep.RegionWith
import Derived.Deep.CutBlock
import Derived.Deep.CutRange
namespace Go.Proofs.Ytkehejkjifgieaa
open Go.RowKit Go.ChangeMaps

def hcell (s : St) (B : Nat → W8) (held long : Int) (j : Nat) : Value :=
  if j < 8 then .int .u32 (u (s.get j)) else if j < 72 then .int .u8 (ub (B (j - 8))) else if j = 72 then .int .i64 held else .int .u64 long
/-- A hash lies at block h. -/
def HashAt (w : World) (h : Nat) (s : St) (B : Nat → W8) (held long : Int) : Prop := Fn w h 130 74 (hcell s B held long)

def kArr : Array Value := #[.int .u32 1116352408, .int .u32 1899447441, .int .u32 3049323471, .int .u32 3921009573, .int .u32 961987163, .int .u32 1508970993, .int .u32 2453635748, .int .u32 2870763221, .int .u32 3624381080, .int .u32 310598401, .int .u32 607225278, .int .u32 1426881987, .int .u32 1925078388, .int .u32 2162078206, .int .u32 2614888103, .int .u32 3248222580, .int .u32 3835390401, .int .u32 4022224774, .int .u32 264347078, .int .u32 604807628, .int .u32 770255983, .int .u32 1249150122, .int .u32 1555081692, .int .u32 1996064986, .int .u32 2554220882, .int .u32 2821834349, .int .u32 2952996808, .int .u32 3210313671, .int .u32 3336571891, .int .u32 3584528711, .int .u32 113926993, .int .u32 338241895, .int .u32 666307205, .int .u32 773529912, .int .u32 1294757372, .int .u32 1396182291, .int .u32 1695183700, .int .u32 1986661051, .int .u32 2177026350, .int .u32 2456956037, .int .u32 2730485921, .int .u32 2820302411, .int .u32 3259730800, .int .u32 3345764771, .int .u32 3516065817, .int .u32 3600352804, .int .u32 4094571909, .int .u32 275423344, .int .u32 430227734, .int .u32 506948616, .int .u32 659060556, .int .u32 883997877, .int .u32 958139571, .int .u32 1322822218, .int .u32 1537002063, .int .u32 1747873779, .int .u32 1955562222, .int .u32 2024104815, .int .u32 2227730452, .int .u32 2361852424, .int .u32 2428436474, .int .u32 2756734187, .int .u32 3204031479, .int .u32 3329325298]
theorem kArr_eq : kArr = arr 64 (fun i => .int .u32 (u (kAt i))) := by kernel_rfl
set_option maxRecDepth 100000 in
set_option maxHeartbeats 2000000 in
theorem steps_c (w : World) : Calls Try.prog 80 #[] w fun e w' => e = .returned (.agg (arr 64 (fun i => .int .u32 (u (kAt i))))) ∧ Below w.heap.size w w' := by
  have F := hid ((Fn.arr w 135 64 (fun _ => .int .u32 0)))
  have H1 := hid (show (w.alloc (.cells (arr 64 (fun _ => .int .u32 0)) 135)).there w.heap.size 0 kArr.size from F.out.there 0 64 (Nat.le_refl _))
  have H2 := hid (show (Try.prog.info? 135).map (·.size) = some kArr.size by kernel_rfl)
  have H3 := hid (show kArr.all (·.oneCell') = true by kernel_rfl)
  go_enter Try.func80, Try.ntmps80
  go_wp2_with (refine wpList_store_mid rfl 135 (.tmp 0) (.tmp 1) rfl w.heap.size 0 kArr rfl rfl H1.out H2.out H3.out ?_)
  obtain ⟨cs, g1, g2, g3⟩ := Fn.setCells kArr.toList 0 _ _ F.out (fun i => .int .u32 (u (kAt i))) (fun j hj => by
    rw [Nat.zero_add, Array.getElem?_toList, kArr_eq, arr_get _ _ (by rw [kArr_eq] at hj; simpa [arr_size] using hj)]) (fun j hn hj => by
    rw [kArr_eq] at hj; simp [arr_size] at hj; omega)
  have hcs := arr_ext g2 g3
  subst hcs
  refine bodyPost_ret (v := .agg (arr 64 (fun i => .int .u32 (u (kAt i))))) (results_cell_row (t := 135) (fr := (0, 0)) rfl _ _ w.heap.size _ _ rfl g1 Try.underlying135 rfl (by rw [arr_size]; kernel_rfl)) rfl ?_
  refine ⟨rfl, ?_⟩
  exact (Mod.setCells (S := fun k => w.heap.size ≤ k) kArr.toList 0 _ ((Mod.refl _ w).alloc _) (fun h => by omega)).below (Nat.le_refl _) (fun k hk h => by omega)
end Go.Proofs.Ytkehejkjifgieaa
