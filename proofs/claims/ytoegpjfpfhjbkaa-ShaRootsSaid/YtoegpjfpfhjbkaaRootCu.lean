/- The document's 'root'. -/
import Derived.Test.YtoegpjfpfhjbkaaRootSq
namespace Go.Proofs.Ytoegpjfpfhjbkaa
open Go.RowKit Go.ChangeMaps

set_option maxRecDepth 100000 in
set_option maxHeartbeats 4000000 in
theorem root_cu (w : World) (p : Nat) (hp : p < 65536) : Calls Try.prog 27 #[.int .u64 (p : Int), .bool true] w fun e w' => e = .returned (.int .u32 ((rootN p true % 4294967296 : Nat) : Int)) ∧ Below w.heap.size w w' := by
  obtain ⟨zs, hzs⟩ : ∃ zs, zs = z10 := ⟨_, rfl⟩
  have hz : ∀ W : World, (zeroValue 66).run Try.prog W = .ok (.agg zs) W := by rw [hzs]; exact zero10
  have hb : ∀ W : World, (Instr.build 66 #[]).run Try.prog W = .ok (.agg zs) W := by rw [hzs]; exact build10
  have hzz : zs.size = 10 := by rw [hzs]; exact arr_size _ _
  have hzo := hid (show zs.all (·.oneCell') = true by rw [hzs]; kernel_rfl)
  have HZ := hid (show ∀ j, j < 10 → zs[j]? = some (dg (fun _ => 0) j) by rw [hzs]; exact fun j hj => arr_get _ _ hj)
  have HZS := hid (show zs = arr 10 (dg (fun _ => 0)) from hzs)
  clear hzs
  have F0 := hid (Fn.new w zs 66 hzz HZ.out)
  have L0 := hid ((Below.refl w.heap.size w).alloc (Nat.le_refl _) (.cells zs 66))
  have F1 := hid (show Fn ((w.alloc (.cells zs 66)).setCells w.heap.size 0 zs.toList) w.heap.size 66 10 (dg (fun _ => 0)) from by
    have := F0.out.storeAll (dg (fun _ => 0))
    rwa [← HZS.out] at this)
  have L1 := hid (show Below w.heap.size w ((w.alloc (.cells zs 66)).setCells w.heap.size 0 zs.toList) from (Mod.setCells (S := fun c => c = w.heap.size) _ 0 _ ((Mod.refl _ w).alloc _) (fun hh => rfl)).below (Nat.le_refl _) (fun c hc e => by omega))
  go_enter Try.func27, Try.ntmps27
  go_upto_region 2 with (refine wpList_store_mid rfl 66 (.tmp 5) (.tmp 11) rfl w.heap.size 0 zs rfl rfl (there_set F0.out hzz) (by rw [hzz]; kernel_rfl) hzo.out ?_)
  generalize (w.alloc (.cells zs 66)).setCells w.heap.size 0 zs.toList = w1 at F1 L1 ⊢
  have c4 : w1.cell? ⟨w.heap.size, 4, none⟩ = some (.int .u64 0) := F1.out.cell (j := 4) (by omega)
  have f4 : w1.frozen? ⟨w.heap.size, 4, none⟩ = false := F1.out.frozen _
  clear F0 L0
  have F2 := hid (F1.out.set 4 (.int .u64 (p : Int)))
  have F3 := hid (show Fn ((w1.setCell ⟨w.heap.size, 4, none⟩ (.int .u64 (p : Int))).setCells w.heap.size 0 zs.toList) w.heap.size 66 10 (dg (fun _ => 0)) from by
    have := F2.out.storeAll (dg (fun _ => 0))
    rwa [← HZS.out] at this)
  have L3 := hid (show Below w.heap.size w ((w1.setCell ⟨w.heap.size, 4, none⟩ (.int .u64 (p : Int))).setCells w.heap.size 0 zs.toList) from (Mod.setCells (S := fun c => c = w.heap.size) _ 0 _ ((Mod.of_below L1.out (fun c => c = w.heap.size)).setCell (p := ⟨w.heap.size, 4, none⟩) (fun _ => rfl) _) (fun hh => rfl)).below (Nat.le_refl _) (fun c hc e => by omega))
  go_upto_region 5 with (refine wpList_store_mid rfl 66 (.tmp 5) (.tmp 15) rfl w.heap.size 0 zs rfl rfl (there_set F2.out hzz) (by rw [hzz]; kernel_rfl) hzo.out ?_)
  generalize (w1.setCell ⟨w.heap.size, 4, none⟩ (.int .u64 (p : Int))).setCells w.heap.size 0 zs.toList = w3 at F3 L3 ⊢
  have c6 : w3.cell? ⟨w.heap.size, 6, none⟩ = some (.int .u64 0) := F3.out.cell (j := 6) (by omega)
  have f6 : w3.frozen? ⟨w.heap.size, 6, none⟩ = false := F3.out.frozen _
  have F4 := hid (dg_upd F3.out 6 p)
  have L4 := hid (show Below w.heap.size w (w3.setCell ⟨w.heap.size, 6, none⟩ (.int .u64 (p : Int))) from ((Mod.of_below L3.out (fun c => c = w.heap.size)).setCell (p := ⟨w.heap.size, 6, none⟩) (fun _ => rfl) _).below (Nat.le_refl _) (fun c hc e => by omega))
  go_wp2
  generalize w3.setCell ⟨w.heap.size, 6, none⟩ (.int .u64 (p : Int)) = w4 at F4 L4 ⊢
  clear c4 f4 c6 f6 F1 F2 F3 L1 L3
  go_loopg [6, 7] 37 (fun g v6 v7 wr => ∃ s x, v6 = .int .u64 (x : Nat) ∧ v7 = .int .u64 ((2 ^ s / 2 : Nat) : Int) ∧ g = s ∧ s ≤ 37 ∧ x + 2 ^ s ≤ 137438953472 ∧ Hid (rootN p true = climb (fits p true) s x) ∧ Hid (Fn wr w.heap.size 66 10 (dg (upd (fun _ => 0) 6 p))) ∧ Hid (Below w.heap.size w wr))
  case atStart => exact ⟨37, 0, rfl, rfl, rfl, by omega, by decide, hid rfl, F4, L4⟩
  case round =>
    obtain ⟨s, x, rfl, rfl, hg, hs, hxs, HC, FM, LM⟩ := hrel
    clear F4 L4
    cases s with
    | zero =>
      have hx0 : x < 18446744073709551616 := by omega
      go_wp2
      go_ret
      refine ⟨?_, LM.out⟩
      rw [HC.out]
      rfl
    | succ s =>
      have e2 : 2 ^ (s + 1) / 2 = 2 ^ s := by rw [Nat.pow_succ]; omega
      rw [e2]
      clear e2
      obtain ⟨P, hP⟩ : ∃ P, P = 2 ^ s := ⟨_, rfl⟩
      rw [Nat.pow_succ, ← hP] at hxs
      have hP0 : 0 < P := by rw [hP]; exact Nat.pos_of_ne_zero (by simp)
      rw [← hP]
      have HP := hid hP
      clear hP
      obtain ⟨y, hy⟩ : ∃ y, y = x + P := ⟨_, rfl⟩
      have hyb : y < 137438953472 := by omega
      have hwy : IntKind.u64.wrap ((x : Int) + (P : Int)) = (y : Int) := by simp [IntKind.wrap, IntKind.bits, IntKind.signed]; omega
      have HY := hid hy
      have G0 := hid (Fn.new wr zs 66 hzz HZ.out)
      have hn9 := FM.out.lt
      have G1 := hid (show Fn ((wr.alloc (.cells zs 66)).setCells wr.heap.size 0 zs.toList) wr.heap.size 66 10 (dg (fun _ => 0)) from by
        have := G0.out.storeAll (dg (fun _ => 0))
        rwa [← HZS.out] at this)
      have N1 := hid (show Below wr.heap.size wr ((wr.alloc (.cells zs 66)).setCells wr.heap.size 0 zs.toList) from (Mod.setCells (S := fun c => c = wr.heap.size) _ 0 _ ((Mod.refl _ wr).alloc _) (fun hh => rfl)).below (Nat.le_refl _) (fun c hc e => by omega))
      clear hy
      go_upto_region 12 with (refine wpList_store_mid rfl 66 (.tmp 9) (.tmp 25) rfl wr.heap.size 0 zs rfl rfl (there_set G0.out hzz) (by rw [hzz]; kernel_rfl) hzo.out ?_)
      generalize (wr.alloc (.cells zs 66)).setCells wr.heap.size 0 zs.toList = w5 at G1 N1 ⊢
      clear G0
      have c0 : w5.cell? ⟨wr.heap.size, 0, none⟩ = some (.int .u64 0) := G1.out.cell (j := 0) (by omega)
      have f0 : w5.frozen? ⟨wr.heap.size, 0, none⟩ = false := G1.out.frozen _
      go_upto_region 13 with fail
      rw [show (y : Int) % 65536 = ((y % 65536 : Nat) : Int) by omega]
      have G2 := hid (dg_upd G1.out 0 (y % 65536))
      have N2 := hid (show Below wr.heap.size wr (w5.setCell ⟨wr.heap.size, 0, none⟩ (.int .u64 ((y % 65536 : Nat) : Int))) from ((Mod.of_below N1.out (fun c => c = wr.heap.size)).setCell (p := ⟨wr.heap.size, 0, none⟩) (fun _ => rfl) _).below (Nat.le_refl _) (fun c hc e => by omega))
      generalize w5.setCell ⟨wr.heap.size, 0, none⟩ (.int .u64 ((y % 65536 : Nat) : Int)) = w6 at G2 N2 ⊢
      clear c0 f0 G1 N1
      have c0 : w6.cell? ⟨wr.heap.size, 1, none⟩ = some (.int .u64 0) := G2.out.cell (j := 1) (by omega)
      have f0 : w6.frozen? ⟨wr.heap.size, 1, none⟩ = false := G2.out.frozen _
      go_upto_region 14 with fail
      rw [show (y : Int) / 65536 % 65536 = ((y / 65536 % 65536 : Nat) : Int) by omega]
      have G3 := hid (dg_upd G2.out 1 (y / 65536 % 65536))
      have N3 := hid (show Below wr.heap.size wr (w6.setCell ⟨wr.heap.size, 1, none⟩ (.int .u64 ((y / 65536 % 65536 : Nat) : Int))) from ((Mod.of_below N2.out (fun c => c = wr.heap.size)).setCell (p := ⟨wr.heap.size, 1, none⟩) (fun _ => rfl) _).below (Nat.le_refl _) (fun c hc e => by omega))
      generalize w6.setCell ⟨wr.heap.size, 1, none⟩ (.int .u64 ((y / 65536 % 65536 : Nat) : Int)) = w7 at G3 N3 ⊢
      clear c0 f0 G2 N2
      have c0 : w7.cell? ⟨wr.heap.size, 2, none⟩ = some (.int .u64 0) := G3.out.cell (j := 2) (by omega)
      have f0 : w7.frozen? ⟨wr.heap.size, 2, none⟩ = false := G3.out.frozen _
      go_upto_region 15 with fail
      rw [show (y : Int) / 65536 / 65536 = ((y / 65536 / 65536 : Nat) : Int) by omega]
      have G4 := hid (show Fn (w7.setCell ⟨wr.heap.size, 2, none⟩ (.int .u64 ((y / 65536 / 65536 : Nat) : Int))) wr.heap.size 66 10 (dg (D3 y)) from dg_upd G3.out 2 (y / 65536 / 65536))
      have N4 := hid (show Below wr.heap.size wr (w7.setCell ⟨wr.heap.size, 2, none⟩ (.int .u64 ((y / 65536 / 65536 : Nat) : Int))) from ((Mod.of_below N3.out (fun c => c = wr.heap.size)).setCell (p := ⟨wr.heap.size, 2, none⟩) (fun _ => rfl) _).below (Nat.le_refl _) (fun c hc e => by omega))
      generalize w7.setCell ⟨wr.heap.size, 2, none⟩ (.int .u64 ((y / 65536 / 65536 : Nat) : Int)) = w8 at G4 N4 ⊢
      clear c0 f0 G3 N3
      obtain ⟨ds, hds⟩ : ∃ ds, ds = arr 10 (dg (D3 y)) := ⟨_, rfl⟩
      have hdz : ds.size = 10 := by rw [hds]; exact arr_size _ _
      have DD := hid (show Dg ds.toList.toArray (D3 y) from by rw [Array.toArray_toList, hds]; exact dg_arr _ (D3_lt y hyb))
      have RD := hid (show w8.rangeAt wr.heap.size 0 ds.toList from G4.out.range' ds hdz (by rw [hds]; exact fun j hj => arr_get _ _ hj))
      have HDS := hid hds
      clear hds
      go_upto_region 16 with first
        | (refine wpList_store_mid rfl 66 (.tmp 10) (.tmp 39) rfl w9.heap.size 0 qs rfl rfl (there_set H0.out DQ.out.1) (by rw [DQ.out.1]; kernel_rfl) hqo.out ?_)
        | (refine wpList_load_mid rfl 66 (.tmp 9) rfl wr.heap.size 0 rfl ds.toList _ RD.out Try.underlying66 rfl (by rw [Array.length_toList, hdz]; kernel_rfl) ?_)
        | (go_at_call 35; refine (times_c _ DD.out DD.out (lim_sq hyb)).mono ?_; rintro e w9 ⟨qs, q, rfl, hdq, hvq, Lx⟩; have DQ := hid hdq; have VQ := hid (show W10 q = y * y by rw [hvq, D3_v]); have N9 := hid Lx; have H0 := hid (Fn.new w9 zs 66 hzz HZ.out); have hqo := hid (show qs.all (·.oneCell') = true by rw [arr_ext DQ.out.1 DQ.out.2.1]; exact one_arr); clear Lx hdq hvq)
      have H1 := hid (show Fn ((w9.alloc (.cells zs 66)).setCells w9.heap.size 0 qs.toList) w9.heap.size 66 10 (dg q) from by
        have := H0.out.storeAll (dg q)
        rwa [← arr_ext DQ.out.1 DQ.out.2.1] at this)
      have N10 := hid (show Below w8.heap.size w8 ((w9.alloc (.cells zs 66)).setCells w9.heap.size 0 qs.toList) from N9.out.trans ((Mod.setCells (S := fun c => c = w9.heap.size) _ 0 _ ((Mod.refl _ w9).alloc _) (fun hh => rfl)).below N9.out.size (fun c hc e => by have := N9.out.size; omega)))
      generalize (w9.alloc (.cells zs 66)).setCells w9.heap.size 0 qs.toList = w10 at H1 N10 ⊢
      have h89 := N9.out.size
      have h48 := N4.out.size
      have hwr8 : wr.heap.size < w8.heap.size := G4.out.lt
      have FM1 := hid (show Fn w10 w.heap.size 66 10 (dg (upd (fun _ => 0) 6 p)) from (FM.out.below N4.out hn9).below N10.out (by omega))
      have LM1 := hid (show Below w.heap.size w w10 from (LM.out.trans (N4.out.mono LM.out.size)).trans (N10.out.mono (by have := LM.out.size; omega)))
      obtain ⟨b10, hb10⟩ : ∃ b, b = w9.heap.size := ⟨_, rfl⟩
      rw [← hb10] at H1 ⊢
      have hbw : w.heap.size < b10 := by omega
      clear hb10
      have RD1 := hid (show w10.rangeAt wr.heap.size 0 ds.toList from (G4.out.below N10.out hwr8).range' ds hdz (by rw [HDS.out]; exact fun j hj => arr_get _ _ hj))
      have RQ1 := hid (show w10.rangeAt b10 0 qs.toList from H1.out.range' qs DQ.out.1 DQ.out.2.1)
      have DQ1 := hid (show Dg qs.toList.toArray q from DQ.out)
      have hqz1 := DQ.out.1
      have hb10' := H1.out.lt
      go_upto_region 18 with first
        | (refine wpList_store_mid rfl 66 (.tmp 10) (.tmp 43) rfl b10 0 rs rfl rfl (there_set H11.out DR.out.1) (by rw [DR.out.1]; kernel_rfl) hro.out ?_)
        | (refine wpList_load_mid rfl 66 (.tmp 10) rfl b10 0 rfl qs.toList _ RQ1.out Try.underlying66 rfl (by rw [Array.length_toList, hqz1]; kernel_rfl) ?_)
        | (refine wpList_load_mid rfl 66 (.tmp 9) rfl wr.heap.size 0 rfl ds.toList _ RD1.out Try.underlying66 rfl (by rw [Array.length_toList, hdz]; kernel_rfl) ?_)
        | (go_at_call 35; refine (times_c _ DQ1.out DD.out (lim_cube hyb VQ.out)).mono ?_; rintro e w11 ⟨rs, r, rfl, hdr, hvr, Lx⟩; have DR := hid hdr; have VR := hid (show W10 r = y * y * y by rw [hvr, D3_v, VQ.out]); have N11 := hid Lx; have H11 := hid (H1.out.below Lx H1.out.lt); have hro := hid (show rs.all (·.oneCell') = true by rw [arr_ext DR.out.1 DR.out.2.1]; exact one_arr); clear Lx hdr hvr)
      have H2 := hid (show Fn (w11.setCells b10 0 rs.toList) b10 66 10 (dg r) from by
        have := H11.out.storeAll (dg r)
        rwa [← arr_ext DR.out.1 DR.out.2.1] at this)
      have FM11 := hid (FM1.out.below N11.out FM1.out.lt)
      have FM2 := hid (show Fn (w11.setCells b10 0 rs.toList) w.heap.size 66 10 (dg (upd (fun _ => 0) 6 p)) from FM11.out.setCells_other _ (by omega))
      have LM2 := hid (show Below w.heap.size w (w11.setCells b10 0 rs.toList) from LM1.out.trans ((Mod.setCells (S := fun c => c = b10) _ 0 _ (Mod.of_below (N11.out) _) (fun hh => rfl)).below LM1.out.size (fun c hc e => by omega)))
      generalize w11.setCells b10 0 rs.toList = w14 at H2 FM2 LM2 ⊢
      obtain ⟨ms, hms⟩ : ∃ ms, ms = arr 10 (dg (upd (fun _ => 0) 6 p)) := ⟨_, rfl⟩
      have hmz : ms.size = 10 := by rw [hms]; exact arr_size _ _
      have DM := hid (show Dg ms.toList.toArray (upd (fun _ => 0) 6 p) from by rw [Array.toArray_toList, hms]; exact dg_arr _ (M_lt 6 p hp))
      have RM := hid (show w14.rangeAt w.heap.size 0 ms.toList from FM2.out.range' ms hmz (by rw [hms]; exact fun j hj => arr_get _ _ hj))
      have RQ := hid (show w14.rangeAt b10 0 rs.toList from H2.out.range' rs DR.out.1 DR.out.2.1)
      have DQA := hid (show Dg rs.toList.toArray r from DR.out)
      have hqz := DR.out.1
      clear hms
      have HN := hid (show climb (fits p true) (s + 1) x = climb (fits p true) s (if fits p true y = true then y else x) from by rw [HY.out, HP.out]; rfl)
      by_cases hlt : W10 (upd (fun _ => 0) 6 p) < W10 r
      · have HF := hid (show fits p true y = false from by unfold fits; simp only [if_true]; exact decide_eq_false (by rw [M6_v, VR.out] at hlt; omega))
        have HLT := hid hlt
        clear hlt
        go_wp2_with first
          | (refine wpList_load_mid rfl 66 (.tmp 10) rfl b10 0 rfl rs.toList _ RQ.out Try.underlying66 rfl (by rw [Array.length_toList, hqz]; kernel_rfl) ?_)
          | (refine wpList_load_mid rfl 66 (.tmp 5) rfl w.heap.size 0 rfl ms.toList _ RM.out Try.underlying66 rfl (by rw [Array.length_toList, hmz]; kernel_rfl) ?_)
          | (go_at_call 36; refine (above_c _ DQA.out DM.out).mono ?_; rintro e w12 ⟨rfl, Lx⟩; have N12 := hid Lx; rw [decide_eq_true HLT.out]; clear Lx)
        go_roundg s
        case measure => omega
        case rel => exact ⟨s, x, rfl, vint (by rw [← HP.out]; rfl), rfl, by omega, by rw [← HP.out]; omega, hid (by rw [HC.out, HN.out, HF.out]; rfl), hid (FM2.out.below N12.out (FM2.out.lt)), hid (LM2.out.trans (N12.out.mono LM2.out.size))⟩
      · have HF := hid (show fits p true y = true from by unfold fits; simp only [if_true]; exact decide_eq_true (by rw [M6_v, VR.out] at hlt; omega))
        have HLT := hid hlt
        clear hlt
        go_wp2_with first
          | (refine wpList_load_mid rfl 66 (.tmp 10) rfl b10 0 rfl rs.toList _ RQ.out Try.underlying66 rfl (by rw [Array.length_toList, hqz]; kernel_rfl) ?_)
          | (refine wpList_load_mid rfl 66 (.tmp 5) rfl w.heap.size 0 rfl ms.toList _ RM.out Try.underlying66 rfl (by rw [Array.length_toList, hmz]; kernel_rfl) ?_)
          | (go_at_call 36; refine (above_c _ DQA.out DM.out).mono ?_; rintro e w12 ⟨rfl, Lx⟩; have N12 := hid Lx; rw [decide_eq_false HLT.out]; clear Lx)
        go_roundg s
        case measure => omega
        case rel => exact ⟨s, y, rfl, vint (by rw [← HP.out]; rfl), rfl, by omega, by have := HY.out; rw [← HP.out]; omega, hid (by rw [HC.out, HN.out, HF.out]; rfl), hid (FM2.out.below N12.out (FM2.out.lt)), hid (LM2.out.trans (N12.out.mono LM2.out.size))⟩
end Go.Proofs.Ytoegpjfpfhjbkaa
