/- The wheel is loaded: 'load'. -/
import Derived.Test.YtkehejkjifgieaaShaNext
namespace Go.Proofs.Ytkehejkjifgieaa
open Go.RowKit Go.ChangeMaps

def ub (b : W8) : Int := (b.toNat : Int)
theorem ub_z (b : W8) : ub b = u (z b) := by
  have := b.isLt
  simp [ub, u, z, BitVec.toNat_setWidth]; omega
theorem ub_wrap (b : W8) : ub b % (4294967296 : Int) = u (z b) := by rw [ub_z]; have := u_lo (z b); have := u_hi (z b); omega
theorem u_sl8 (a : W32) : u a * (256 : Int) % (4294967296 : Int) = u (a <<< 8) := by have := u_shl a 8; simpa using this

set_option maxRecDepth 100000 in
set_option maxHeartbeats 1000000 in
theorem load_c (w : World) (B : Nat → W8) (xs : Array Value) (hs : xs.size = 64) (hx : ∀ i, i < 64 → xs[i]? = some (.int .u8 (ub (B i)))) :
    Calls Try.prog 79 #[.agg xs] w fun e w' => e = .returned (.agg (arr 16 (fun i => .int .u32 (u (word B i))))) ∧ Below w.heap.size w w' := by
  have R0 := hid ((((Below.refl w.heap.size w).alloc (Nat.le_refl _) (.cells xs 128)).alloc (by simp) (.cells (arr 16 (fun _ => .int .u32 0)) 133)).alloc (by simp; omega) (.cells (arr 16 (fun _ => .int .u32 0)) 133))
  have F1 := hid (((Fn.new w xs 128 hs hx).alloc (.cells (arr 16 (fun _ => .int .u32 0)) 133)).alloc (.cells (arr 16 (fun _ => .int .u32 0)) 133))
  have F2 := hid ((Fn.arr (w.alloc (.cells xs 128)) 133 16 (fun _ => .int .u32 0)).alloc (.cells (arr 16 (fun _ => .int .u32 0)) 133))
  have F3 := hid (Fn.arr ((w.alloc (.cells xs 128)).alloc (.cells (arr 16 (fun _ => .int .u32 0)) 133)) 133 16 (fun _ => .int .u32 0))
  have hx' := hid hx
  obtain ⟨ys, hys⟩ : ∃ ys : List Value, ys = xs.toList := ⟨_, rfl⟩
  have hyl : ys.length = 64 := by rw [hys]; simpa using hs
  have hyx := hid (show ys.toArray = xs by rw [hys])
  have RA := hid (show (((w.alloc (.cells xs 128)).alloc (.cells (arr 16 (fun _ => .int .u32 0)) 133)).alloc (.cells (arr 16 (fun _ => .int .u32 0)) 133)).rangeAt w.heap.size 0 ys from fun j v hv => by
    have hj : j < 64 := by rw [← hyl]; exact (List.getElem?_eq_some_iff.1 hv).1
    rw [Nat.zero_add, F1.out.cell hj, ← hv, hys, Array.getElem?_toList, hx j hj])
  have HY := hid hys
  clear hx hys
  go_enter Try.func79, Try.ntmps79
  go_wp2_with (refine wpList_load_mid rfl 128 (.tmp 1) rfl w.heap.size 0 rfl ys _ RA.out Try.underlying128 rfl (by rw [hyl]; kernel_rfl) ?_)
  rw [hyx.out]
  go_loopg [4, 5, 7] 64 (fun g _ _ v7 wr => ∃ k : Nat, v7 = .int .i64 k ∧ g = 64 - k ∧ k ≤ 64 ∧ Hid (Fn wr (w.heap.size + 2) 133 16 (fun j => .int .u32 (u (pw B j (min 4 (k - 4 * j)))))) ∧ Hid (Fn wr (w.heap.size + 1) 133 16 (fun _ => .int .u32 0)) ∧ Hid (Below w.heap.size w wr))
  case atStart =>
    refine ⟨0, rfl, rfl, by omega, hid ?_, hid ?_, R0⟩
    · have := F3.out; simp at this; exact this.congr (fun j _ => by rw [Nat.zero_sub]; rfl)
    · have := F2.out; simp at this; exact this
  case round =>
    obtain ⟨k, hv, hg, hk, W, R, L⟩ := hrel
    subst hv
    by_cases hk0 : k < 64
    · have e1 : (Instr.index 128 (.agg xs) (.int .i64 k)).run Try.prog wr = .ok (.int .u8 (ub (B k))) wr := index_agg (P := Try.prog) Try.underlying128 Try.underlying5 (by kernel_rfl) hk0 (hx'.out k hk0) wr
      have e2 : wr.cell? ⟨w.heap.size + 2, k / 4, none⟩ = some (.int .u32 (u (pw B (k / 4) (k % 4)))) := by
        have := W.out.cell (j := k / 4) (by omega)
        rw [show min 4 (k - 4 * (k / 4)) = k % 4 by omega] at this; exact this
      have e3 : wr.frozen? ⟨w.heap.size + 2, k / 4, none⟩ = false := W.out.frozen _
      have e4 : w.heap.size + 2 < wr.heap.size := W.out.lt
      go_wp2
      have x0 : bits BinOp.or .u32 (u (pw B (k / 4) (k % 4)) * 256 % 4294967296) (ub (B k) % 4294967296) = u (pw B (k / 4) (k % 4 + 1)) := by
        rw [u_sl8, ub_wrap, u_or]
        have : 4 * (k / 4) + k % 4 = k := by omega
        rw [pw, this]
      rw [x0]
      go_roundg (64 - (k + 1))
      case measure => omega
      case rel =>
        refine ⟨k + 1, by go_num, rfl, by omega, hid ?_, hid (R.out.other (by simp) _), hid (L.out.setCell (by simp; omega) _)⟩
        refine (W.out.set (k / 4) _).congr (fun j _ => ?_)
        unfold set1
        by_cases e : j = k / 4
        · subst e
          rw [if_pos rfl, show min 4 (k + 1 - 4 * (k / 4)) = k % 4 + 1 by omega]
        · rw [if_neg e, show min 4 (k + 1 - 4 * j) = min 4 (k - 4 * j) by omega]
    · have hk1 : k = 64 := by omega
      subst hk1
      have W' := hid (W.out.congr (g := fun j => .int .u32 (u (word B j))) (fun j hj => by rw [show min 4 (64 - 4 * j) = 4 by omega, pw_word]))
      obtain ⟨zs, hzs⟩ : ∃ zs : List Value, zs = (List.range 16).map (fun j => Value.int .u32 (u (word B j))) := ⟨_, rfl⟩
      have hzl : zs.length = 16 := by rw [hzs]; simp
      have hz0 : zs.toArray.size = 16 := by rw [List.size_toArray, hzl]
      have RZ := hid (show wr.rangeAt (w.heap.size + 2) 0 zs from by rw [hzs]; exact W'.out.range 0 16 (Nat.le_refl _) _ (fun j _ => by rw [Nat.zero_add]))
      have HZ := hid hzs
      have hl2 : w.heap.size + 2 < wr.heap.size := W.out.lt
      have hl1 : w.heap.size + 1 < wr.heap.size := R.out.lt
      have hz1 := hid (show zs.toArray.all (·.oneCell') = true by rw [hzs]; simp [Value.oneCell'])
      have hz2 := hid (show (Try.prog.info? 133).map (·.size) = some zs.toArray.size by rw [hz0]; kernel_rfl)
      have hz3 := hid (show wr.there (w.heap.size + 1) 0 zs.toArray.size by rw [hz0]; exact R.out.there 0 16 (Nat.le_refl _))
      clear hzs
      go_wp2_with first
        | (refine wpList_load_mid rfl 133 (.tmp 3) rfl (w.heap.size + 2) 0 rfl zs _ RZ.out Try.underlying133 rfl (by rw [hzl]; kernel_rfl) ?_)
        | (refine wpList_store_mid rfl 133 (.tmp 2) (.tmp 23) rfl (w.heap.size + 1) 0 zs.toArray rfl rfl hz3.out hz2.out hz1.out ?_)
      have G := Fn.setCells zs 0 _ _ R.out (fun j => .int .u32 (u (word B j))) (fun j hj => by
        rw [HZ.out, Nat.zero_add]; simp [show j < 16 by omega]) (fun j hn hj => by rw [hzl] at hj; omega)
      obtain ⟨cs, g1, g2, g3⟩ := G
      have hcs := arr_ext g2 g3
      subst hcs
      refine bodyPost_ret (v := .agg (arr 16 (fun i => .int .u32 (u (word B i))))) (results_cell_row (t := 133) (fr := (0, 0)) rfl _ _ (w.heap.size + 1) _ _ rfl g1 Try.underlying133 rfl (by rw [arr_size]; kernel_rfl)) rfl ?_
      refine ⟨rfl, ?_⟩
      exact (Mod.setCells (S := fun k => w.heap.size ≤ k) zs 0 wr (Mod.weaken (S := fun _ => False) ⟨L.out.os, L.out.tape, L.out.output, L.out.size, fun k hk _ => L.out.block k hk⟩ (fun _ _ h => h.elim)) (fun _ => by omega)).below (Nat.le_refl _) (fun k hk h => by omega)
end Go.Proofs.Ytkehejkjifgieaa
