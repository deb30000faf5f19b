/- The document's hash of bytes. -/
import Derived.Test.YtkehejkjifgieaaRefPad
import Derived.Test.YtkehejkjifgieaaRefStart
namespace Go.Proofs.Ytkehejkjifgieaa
open Go.RowKit Go.ChangeMaps
attribute [local go_sem ↓] Go.wp_at_zero Go.wp_at_succ

theorem zero8 (W : World) : Fn (W.alloc (.cells #[.int .u32 0, .int .u32 0, .int .u32 0, .int .u32 0, .int .u32 0, .int .u32 0, .int .u32 0, .int .u32 0] 123)) W.heap.size 123 8 (fun _ => .int .u32 0) :=
  Fn.new W _ _ rfl (fun j hj => by match j, hj with | 0, _ => rfl | 1, _ => rfl | 2, _ => rfl | 3, _ => rfl | 4, _ => rfl | 5, _ => rfl | 6, _ => rfl | 7, _ => rfl)
theorem store_row {W : World} {b : Nat} {T : TypeId} {f : Nat → Value} {ts : Array Value} (F : Fn W b T 8 f) (hz : ts.size = 8) (ho : ts.all (·.oneCell') = true) :
    (storeCells ⟨b, 0, none⟩ ts.toList).run Try.prog W = .ok () (W.setCells b 0 ts.toList) := by
  have ht := there_set F hz
  have := run_storeCells_cells (P := Try.prog) b 0 ts.toList 0 W (fun j hj => by simpa using (ht j (by simpa using hj)).1) (fun j hj => by simpa using (ht j (by simpa using hj)).2)
    (fun v hv => (Array.all_eq_true_iff_forall_mem.1 ho) v (by simpa using hv))
  simpa using this
theorem shaB_eq (xs : List W8) (i : Nat) : ub (shaB xs i) = u ((fin xs).get (i / 4)) / ((2 ^ (24 - 8 * (i % 4)) : Nat) : Int) % 256 := by
  unfold ub shaB
  rw [BitVec.toNat_setWidth, u_shr]; unfold u; omega
theorem fn_fill {W : World} {b i : Nat} {T : TypeId} {f : Nat → Int} {z X : Int} (F : Fn W b T 32 (fun j => if j < i then .int .u8 (f j) else .int .u8 z)) (h : X = f i) :
    Fn (W.setCell ⟨b, i, none⟩ (.int .u8 X)) b T 32 (fun j => if j < i + 1 then .int .u8 (f j) else .int .u8 z) := by
  subst h
  refine (F.set i (.int .u8 (f i))).congr (fun j hj => ?_)
  unfold set1
  by_cases e : j = i
  · subst e; rw [if_pos rfl, if_pos (by omega)]
  · rw [if_neg e]
    dsimp only
    by_cases e2 : j < i
    · rw [if_pos e2, if_pos (by omega)]
    · rw [if_neg e2, if_neg (by omega)]
set_option maxRecDepth 100000 in
set_option maxHeartbeats 4000000 in
theorem refSum_c {w : World} {v : Value} {xs : List W8} (hv : Bytes w v xs) (hlen : xs.length < 100000) :
    Calls Try.prog 62 #[v] w fun e w' => e = .returned (.agg (arr 32 (fun i => .int .u8 (ub (shaB xs i))))) ∧ Below w.heap.size w w' := by
  have HV := hid hv
  clear hv
  obtain ⟨zs, hzs⟩ : ∃ zs, zs = arr 32 (fun _ => Value.int .u8 (ub 0)) := ⟨_, rfl⟩
  have hz : ∀ W : World, (zeroValue 101).run Try.prog W = .ok (.agg zs) W := by rw [hzs]; exact fun _ => rfl
  have hzz : zs.size = 32 := by rw [hzs, arr_size]
  have HZS := hid hzs
  clear hzs
  obtain ⟨ss, hss⟩ : ∃ ss, ss = u32s 8 start.get := ⟨_, rfl⟩
  have hsz : ss.size = 8 := by rw [hss]; exact arr_size _ _
  have hso := hid (show ss.all (·.oneCell') = true by rw [hss]; exact one_arr)
  have HSS := hid hss
  clear hss
  have L0 := hid ((Below.refl w.heap.size w).alloc (Nat.le_refl _) (.cells zs 101))
  have V0 := hid (show Bytes (w.alloc (.cells zs 101)) v xs from HV.out.below L0.out)
  go_enter Try.func62, Try.ntmps62
  go_wp2_with first
    | (refine wpList_store_mid rfl 123 (.tmp 3) (.tmp 9) rfl w1.heap.size 0 ss rfl rfl (there_set (zero8 w1) hsz) (by rw [hsz]; kernel_rfl) hso.out ?_; obtain ⟨w2, hw2⟩ : ∃ w2, w2 = (w1.alloc (.cells #[.int .u32 0, .int .u32 0, .int .u32 0, .int .u32 0, .int .u32 0, .int .u32 0, .int .u32 0, .int .u32 0] 123)).setCells w1.heap.size 0 ss.toList := ⟨_, rfl⟩; rw [← hw2]; have F2 := hid (show Fn w2 w1.heap.size 123 8 (fun j => .int .u32 (u (start.get j))) from by rw [hw2, HSS.out]; exact (zero8 w1).storeAll _); have X2 := hid (show Below w1.heap.size w1 w2 from by rw [hw2]; exact (Mod.setCells (S := fun k => k = w1.heap.size) _ 0 _ ((Mod.refl _ w1).alloc _) (fun hh => rfl)).below (Nat.le_refl _) (fun c hc e => by omega)); have L2 := hid (L1.out.trans (X2.out.mono L1.out.size)); have V2 := hid (V1.out.below X2.out); clear hw2)
    | (go_at_call 75; refine (padded_c V3.out hlen).mono ?_; rintro e w4 ⟨v4, rfl, O4, Lx⟩; have L4 := hid (L3.out.trans (Lx.mono L3.out.size)); have O4' := hid O4; have M4 := hid Lx; clear O4 Lx)
    | (go_at_call 74; refine (rsteps_c _).mono ?_; rintro e w3 ⟨rfl, hk3, K3, Lx⟩; have L3 := hid (L2.out.trans (Lx.mono L2.out.size)); have K3' := hid K3; have V3 := hid (V2.out.below Lx); have M3 := hid Lx; clear K3 Lx)
    | (go_at_call 73; refine (rstart_c _).mono ?_; rintro e w1 ⟨rfl, Lx⟩; have L1 := hid (L0.out.trans (Lx.mono L0.out.size)); have V1 := hid (V0.out.below Lx); have M1 := hid Lx; clear Lx; rw [← HSS.out])
  have h1 : w1.heap.size < w2.heap.size := F2.out.lt
  have F4 := hid (show Fn w4 w1.heap.size 123 8 (fun j => .int .u32 (u ((bst (pad xs) 0).get j))) from (F2.out.below M3.out h1).below M4.out (by have := M3.out.size; omega))
  have K4 := hid (show Wds w4 w2.heap.size 64 kAt from K3'.out.below hk3 M4.out)
  have hk4 : w2.heap.size < w4.heap.size := by have := M4.out.size; omega
  have hpl := pad_length xs
  obtain ⟨q, hq⟩ : ∃ q, q = pad xs := ⟨_, rfl⟩
  have HQ := hid hq
  rw [← hq] at F4 O4' hpl
  obtain ⟨n, hn⟩ : ∃ n, n = q.length := ⟨_, rfl⟩
  have HN := hid hn
  rw [← hn] at O4' hpl
  have hnb : n < 200000 := by
    rw [hn, hq]; unfold pad pad0 padN; simp; omega
  have hn64 : 0 < n := by
    rw [hn, hq]; unfold pad pad0; simp; omega
  obtain ⟨g4, c4', e4, hc4, hcm4, hg4⟩ : ∃ g c, v4 = .slice (some ⟨g, 0, none⟩) n c ∧ n ≤ c ∧ c ≤ maxLen ∧ w3.heap.size ≤ g := by
    rcases O4'.out.2 with ⟨_, h⟩ | ⟨g, cap, cur, h, h1, h2, h3, h4, _⟩
    · omega
    · exact ⟨g, cap, h, h3, h4, h1⟩
  subst e4
  have B4 := hid (own_bytes HN.out.symm O4'.out)
  have hg4' := (own_lt O4'.out g4 rfl).2
  have hcm4' : c4' ≤ 9223372036854775807 := by simpa [maxLen] using hcm4
  clear hn hq
  obtain ⟨m, hm⟩ : ∃ m, n = 64 * m := ⟨n / 64, by omega⟩
  have HM := hid hm
  clear hm
  go_loopg [6] m (fun g v6 wr => ∃ k : Nat, v6 = .int .i64 (64 * (k : Int)) ∧ g = m - k ∧ k ≤ m ∧ Hid (Fn wr w1.heap.size 123 8 (fun j => .int .u32 (u ((bst q k).get j)))) ∧ Hid (Mod (fun c => c = w1.heap.size) w4 wr))
  case atStart => exact ⟨0, rfl, rfl, by omega, F4, hid (Mod.refl _ _)⟩
  case round =>
    obtain ⟨k, rfl, hg, hk, FR, MR⟩ := hrel
    have hr1 := MR.out.size
    by_cases hkm : k < m
    · have kb : (64 * k : Nat) < n := by have := HM.out; omega
      have kc : 64 * (k : Int) < n := by omega
      have hb := hid (show bst q (k + 1) = comp (bst q k) (fun i => q.getD (64 * k + i) 0) from rfl)
      generalize bst q k = r at FR hb
      have c0 : wr.cell? ⟨w1.heap.size, 0, none⟩ = some (.int .u32 (u r.a)) := FR.out.cell (j := 0) (by omega)
      have c1 : wr.cell? ⟨w1.heap.size, 1, none⟩ = some (.int .u32 (u r.b)) := FR.out.cell (j := 1) (by omega)
      have c2 : wr.cell? ⟨w1.heap.size, 2, none⟩ = some (.int .u32 (u r.c)) := FR.out.cell (j := 2) (by omega)
      have c3 : wr.cell? ⟨w1.heap.size, 3, none⟩ = some (.int .u32 (u r.d)) := FR.out.cell (j := 3) (by omega)
      have c4 : wr.cell? ⟨w1.heap.size, 4, none⟩ = some (.int .u32 (u r.e)) := FR.out.cell (j := 4) (by omega)
      have c5 : wr.cell? ⟨w1.heap.size, 5, none⟩ = some (.int .u32 (u r.f)) := FR.out.cell (j := 5) (by omega)
      have c6 : wr.cell? ⟨w1.heap.size, 6, none⟩ = some (.int .u32 (u r.g)) := FR.out.cell (j := 6) (by omega)
      have c7 : wr.cell? ⟨w1.heap.size, 7, none⟩ = some (.int .u32 (u r.h)) := FR.out.cell (j := 7) (by omega)
      have kk := hid kb
      have b1 : (0 : Int) ≤ 64 * (k : Int) := by omega
      have b2 : 64 * (k : Int) ≤ 64 * (k : Int) + 64 := by omega
      have b3 : 64 * (k : Int) + 64 ≤ (c4' : Int) := by have := HM.out; omega
      have b4 : IntKind.i64.wrap (64 * (k : Int) + 64) = 64 * (k : Int) + 64 := by simp [IntKind.wrap, IntKind.bits, IntKind.signed]; omega
      have hsl : ∀ W : World, (Instr.sliceAt 29 (.slice (some ⟨g4, 0, none⟩) n c4') (some (.int .i64 (64 * (k : Int)))) (some (.int .i64 (64 * (k : Int) + 64))) none).run Try.prog W = .ok (.slice (some ⟨g4, 64 * k, none⟩) 64 (c4' - 64 * k)) W := by
        intro W
        rw [run_sliceAt_slice (h := Try.underlying29), run_slice_lh (ht := Try.underlying29) (h0 := b1) (h1 := b2) (h2 := b3), show (sizeOf (Try.prog.elem 29)).run Try.prog W = .ok 1 W from rfl]
        simp only [Result.andThen_ok, sliced]
        rw [if_neg (show ¬ c4' = (64 * (k : Int)).toNat by omega), show (64 * (k : Int)).toNat = 64 * k by omega, show (64 * (k : Int) + 64).toNat = 64 * k + 64 by omega]
        simp only [Option.map_some, Addr.add_mid, Nat.zero_add, Nat.mul_one]
        rw [show 64 * k + 64 - 64 * k = 64 by omega]
      have HBW := hid (show Bts wr.drew g4 (64 * k) 64 (fun i => q.getD (64 * k + i) 0) from fun i hi => by
        obtain ⟨p', c', e, hS⟩ := B4.out
        cases e
        obtain ⟨b', o', e', h1', _, _, hsr⟩ := hS (by have := HN.out; omega)
        cases e'
        have := hsr (64 * k + i) (by have := HN.out; have := HM.out; omega)
        rw [Nat.zero_add] at this
        exact (World.cell?_of_block (w := w4) (MR.out.block g4 hg4' (by omega))).trans this)
      have HKW := hid (show Wds wr.drew w2.heap.size 64 kAt from fun i hi => (World.cell?_of_block (w := w4) (MR.out.block w2.heap.size hk4 (by omega))).trans (K4.out i hi))
      clear kb
      obtain ⟨ts, hts⟩ : ∃ ts, ts = u32s 8 (comp r (fun i => q.getD (64 * k + i) 0)).get := ⟨_, rfl⟩
      have HTS := hid hts
      have htz : ts.size = 8 := by rw [hts]; exact arr_size _ _
      have hto := hid (show ts.all (·.oneCell') = true by rw [hts]; exact one_arr)
      clear hts
      go_upto_region 7 with fail
      go_region_with (first | (go_at_call 76; refine (block_c (s := r) rfl (B := fun i => q.getD (64 * k + i) 0) (show g4 < wr.drew.heap.size from Nat.lt_of_lt_of_le hg4' hr1) HBW.out (by have := HM.out; omega) (show w2.heap.size < wr.drew.heap.size from Nat.lt_of_lt_of_le hk4 hr1) HKW.out).mono ?_; rintro e w5 ⟨rfl, Lx⟩; rw [← HTS.out]; have L5 := hid Lx; have F5 := hid (show Fn w5 w1.heap.size 123 8 (fun j => .int .u32 (u (r.get j))) from (FR.out.of_block (w' := wr.drew) rfl).below Lx (Fn.lt FR.out)); have hst : (storeCells ⟨w1.heap.size, 0, none⟩ ts.toList).run Try.prog w5 = .ok () (w5.setCells w1.heap.size 0 ts.toList) := store_row F5.out htz hto.out; clear Lx))
      all_goals
        go_wp2
        go_roundg (m - (k + 1))
        case measure => omega
        case rel =>
          refine ⟨k + 1, by go_num, rfl, by omega, hid ?_, hid ?_⟩
          · rw [hb.out]; exact (F5.out.storeAll' HTS.out).of_block rfl
          · exact (Mod.setCells _ 0 _ (MR.out.drew.trans (Mod.of_below L5.out _)) (fun _ => rfl))
    · have hk1 : k = m := by omega
      have hS : bst q k = fin xs := by
        unfold fin; rw [← HQ.out, ← HN.out, HM.out, hk1]; congr 1; omega
      have HS := hid hS
      have kc : ¬ 64 * (k : Int) < n := by have := HM.out; omega
      have FO := hid (Fn.new wr zs 101 (n := 32) (f := fun _ => .int .u8 (ub 0)) hzz (fun j hj => by rw [HZS.out]; exact arr_get _ _ hj))
      have hzo := hid (show zs.all (·.oneCell') = true by rw [HZS.out]; exact one_arr)
      have hh1 : w1.heap.size < wr.heap.size := FR.out.lt
      have FZ := hid (FO.out.storeAll' HZS.out)
      have LZ := hid (show Below wr.heap.size wr ((wr.alloc (.cells zs 101)).setCells wr.heap.size 0 zs.toList) from (Mod.setCells (S := fun c => c = wr.heap.size) _ 0 _ ((Mod.refl _ wr).alloc _) (fun hh => rfl)).below (Nat.le_refl _) (fun c hc e => by omega))
      clear hS hk1 hg
      go_wp2_with (refine wpList_store_mid rfl 101 (.tmp 7) (.tmp 27) rfl wr.heap.size 0 zs rfl rfl (there_set FO.out hzz) (by rw [hzz]; kernel_rfl) hzo.out ?_)
      obtain ⟨wz, hwz⟩ : ∃ wz, wz = (wr.alloc (.cells zs 101)).setCells wr.heap.size 0 zs.toList := ⟨_, rfl⟩
      rw [← hwz]
      rw [← hwz] at FZ LZ
      clear hwz
      obtain ⟨wq, rfl⟩ : ∃ wq, wq = wr := ⟨wr, rfl⟩
      go_loopg [8] 32 (fun g v8 wr => ∃ i : Nat, v8 = .int .i64 i ∧ g = 32 - i ∧ i ≤ 32 ∧ Hid (Fn wr wq.heap.size 101 32 (fun j => if j < i then .int .u8 (ub (shaB xs j)) else .int .u8 (ub 0))) ∧ Hid (Below wq.heap.size wq wr))
      case atStart => exact ⟨0, rfl, rfl, by omega, hid (FZ.out.congr (fun j hj => by rw [if_neg (by omega)])), LZ⟩
      case round =>
        obtain ⟨i, rfl, hg, hi, FI, LI⟩ := hrel
        have hio := FI.out.lt
        by_cases hi32 : i < 32
        · have x1 : wr.cell? ⟨w1.heap.size, i / 4, none⟩ = some (.int .u32 (u ((fin xs).get (i / 4)))) := by
            rw [← HS.out]; exact (LI.out.cell hh1).trans (FR.out.cell (by omega))
          have x2 : wr.cell? ⟨wq.heap.size, i, none⟩ = some (.int .u8 (ub 0)) := by have := FI.out.cell hi32; rwa [if_neg (Nat.lt_irrefl _)] at this
          have x3 : wr.frozen? ⟨wq.heap.size, i, none⟩ = false := FI.out.frozen _
          have hr4 : i % 4 = 0 ∨ i % 4 = 1 ∨ i % 4 = 2 ∨ i % 4 = 3 := by omega
          rcases hr4 with e4 | e4 | e4 | e4
          · have e5 : (i : Int) % 4 = 0 := by omega
            go_wp2
            go_roundg (32 - (i + 1))
            case measure => omega
            case rel =>
              refine ⟨i + 1, by go_num, rfl, by omega, hid (fn_fill FI.out (by have := shaB_eq xs i; rw [e4] at this; simp only [Nat.reduceMul, Nat.reduceSub, Nat.reducePow] at this; omega)), hid ?_⟩
              exact LI.out.trans (((Mod.refl (fun c => c = wq.heap.size) wr).setCell (p := ⟨wq.heap.size, i, none⟩) (fun _ => rfl) _).below (B := wq.heap.size) (by omega) (fun c hc e => by omega))
          · have e5 : (i : Int) % 4 = 1 := by omega
            go_wp2
            go_roundg (32 - (i + 1))
            case measure => omega
            case rel =>
              refine ⟨i + 1, by go_num, rfl, by omega, hid (fn_fill FI.out (by have := shaB_eq xs i; rw [e4] at this; simp only [Nat.reduceMul, Nat.reduceSub, Nat.reducePow] at this; omega)), hid ?_⟩
              exact LI.out.trans (((Mod.refl (fun c => c = wq.heap.size) wr).setCell (p := ⟨wq.heap.size, i, none⟩) (fun _ => rfl) _).below (B := wq.heap.size) (by omega) (fun c hc e => by omega))
          · have e5 : (i : Int) % 4 = 2 := by omega
            go_wp2
            go_roundg (32 - (i + 1))
            case measure => omega
            case rel =>
              refine ⟨i + 1, by go_num, rfl, by omega, hid (fn_fill FI.out (by have := shaB_eq xs i; rw [e4] at this; simp only [Nat.reduceMul, Nat.reduceSub, Nat.reducePow] at this; omega)), hid ?_⟩
              exact LI.out.trans (((Mod.refl (fun c => c = wq.heap.size) wr).setCell (p := ⟨wq.heap.size, i, none⟩) (fun _ => rfl) _).below (B := wq.heap.size) (by omega) (fun c hc e => by omega))
          · have e5 : (i : Int) % 4 = 3 := by omega
            go_wp2
            go_roundg (32 - (i + 1))
            case measure => omega
            case rel =>
              refine ⟨i + 1, by go_num, rfl, by omega, hid (fn_fill FI.out (by have := shaB_eq xs i; rw [e4] at this; simp only [Nat.reduceMul, Nat.reduceSub, Nat.reducePow] at this; omega)), hid ?_⟩
              exact LI.out.trans (((Mod.refl (fun c => c = wq.heap.size) wr).setCell (p := ⟨wq.heap.size, i, none⟩) (fun _ => rfl) _).below (B := wq.heap.size) (by omega) (fun c hc e => by omega))
        · have hi2 : i = 32 := by omega
          subst hi2
          have HF := hid (FI.out.congr (g := fun j => .int .u8 (ub (shaB xs j))) (fun j hj => by rw [if_pos hj]))
          obtain ⟨ys, hys⟩ : ∃ ys, ys = arr 32 (fun j => Value.int .u8 (ub (shaB xs j))) := ⟨_, rfl⟩
          have hyz : ys.size = 32 := by rw [hys]; exact arr_size _ _
          have hyo := hid (show ys.all (·.oneCell') = true by rw [hys]; exact one_arr)
          have RY := hid (show wr.rangeAt wq.heap.size 0 ys.toList from HF.out.range' ys hyz (by rw [hys]; exact fun j hj => arr_get _ _ hj))
          have hyi := hid (show (Try.prog.info? 101).map (·.size) = some ys.size by rw [hyz]; kernel_rfl)
          have HYS := hid hys
          have LW := hid (show Below w.heap.size w wr from by
            have m1 : Below w1.heap.size w4 wq := MR.out.below (by have := F2.out.lt; omega) (fun c hc e => by omega)
            exact L4.out.trans ((m1.mono L1.out.size).trans (LI.out.mono (by have := L1.out.size; omega))))
          have R0 := hid (show Fn wr w.heap.size 101 32 (fun _ => .int .u8 (ub 0)) from by
            have m1 : Below w1.heap.size w4 wq := MR.out.below (by have := F2.out.lt; omega) (fun c hc e => by omega)
            have hw1 : w.heap.size < w1.heap.size := by have := M1.out.size; simp at this; omega
            have r1 : Fn w1 w.heap.size 101 32 (fun _ => .int .u8 (ub 0)) := (Fn.new w zs 101 (n := 32) (f := fun _ => .int .u8 (ub 0)) hzz (fun j hj => by rw [HZS.out]; exact arr_get _ _ hj)).below M1.out (by simp)
            exact ((((r1.below X2.out hw1).below M3.out (by omega)).below M4.out (by omega)).below m1 hw1).below LI.out (by omega))
          clear hys
          go_wp2_with first
            | (refine wpList_store_mid rfl 101 (.tmp 2) (.tmp 45) rfl w.heap.size 0 ys rfl rfl (there_set R0.out hyz) hyi.out hyo.out ?_)
            | (refine wpList_load_mid rfl 101 (.tmp 7) rfl wq.heap.size 0 rfl ys.toList _ RY.out Try.underlying101 rfl (by rw [Array.length_toList, hyz]; kernel_rfl) ?_)
          obtain ⟨cs9, g1, g2, g3⟩ := R0.out.storeAll' HYS.out
          have hcs9 := arr_ext g2 g3
          subst hcs9
          refine bodyPost_ret (v := .agg (arr 32 (fun i => .int .u8 (ub (shaB xs i))))) (results_cell_row (t := 101) (fr := (0, 0)) rfl _ _ w.heap.size _ _ rfl g1 Try.underlying101 rfl (by rw [arr_size]; kernel_rfl)) rfl ?_
          refine ⟨rfl, ?_⟩
          have ML : Mod (fun c => w.heap.size ≤ c) w wr := ⟨LW.out.os, LW.out.tape, LW.out.output, LW.out.size, fun c hc _ => LW.out.block c hc⟩
          exact (Mod.setCells (S := fun c => w.heap.size ≤ c) _ 0 wr ML (fun hh => by omega)).below (Nat.le_refl _) (fun c hc hh => by omega)
end Go.Proofs.Ytkehejkjifgieaa
