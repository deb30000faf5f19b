/- WireBack: the walk. -/
import Derived.Test.YtpbkdjnogjmfcaaEncW
namespace Go.Proofs.Ytpbkdjnogjmfcaa
open Go.RowKit Go.ChangeMaps

theorem decode_is {w : World} {v : Value} {xs : List W8} {k : Int} {s : Strm} (hB : Bytes w v xs) (hl : xs.length ≤ 5100) (h : decS xs = (k, s)) :
    Calls Try.prog 14 #[v] w fun e w' => ∃ cv zs, e = .returned (.tuple #[.agg zs, .int .i64 k]) ∧ zs = strmV s cv ∧ zs.size = 69 ∧ zs.all (·.oneCell') = true ∧ CellsAt w' cv s.cells ∧ Below w.heap.size w w' := decode_l hB hl h.symm
theorem encS_end (s : Strm) : 32 ≤ (encS s).length ∧ shaL ((encS s).take ((encS s).length - 32)) = (encS s).drop ((encS s).length - 32) := by
  have hl : (encS s).length = (aheadS s).length + 32 := by unfold encS; rw [List.length_append, shaL_length]
  refine ⟨by omega, ?_⟩
  rw [hl, Nat.add_sub_cancel]
  unfold encS
  rw [List.take_left, List.drop_left]
set_option maxRecDepth 100000 in
set_option maxHeartbeats 4000000 in
theorem back_walk {w : World} {s : Strm} {cv : Value} {zs : Array Value} (a : Int) (hwf : (Lit.int .i64 a).wf = true) (hzs : zs = strmV s cv) (hC : CellsAt w cv s.cells) (hb : s.base.length = 32) (hg : s.goal.length = 32) :
    Calls Try.prog 5 #[.agg zs, .int .i64 a] w fun e w' => e = .returned (.bool true) ∧ Below w.heap.size w w' := by
  obtain ⟨w1, hw1⟩ : ∃ w1, w1 = w.alloc (.cells zs 25) := ⟨_, rfl⟩
  have L1 := hid (show Below w.heap.size w w1 by rw [hw1]; exact (Below.refl _ w).alloc (Nat.le_refl _) _)
  have F1 := hid (show Fn w1 w.heap.size 25 69 (sf s cv) by rw [hw1, hzs]; exact Fn.arr w _ 69 _)
  have hz1 := hid (show zs.size = 69 by rw [hzs]; exact strmV_size _ _)
  have HZ := hid hzs
  have C1 := hid (hC.below L1.out)
  have RS := hid (fun W (h : Below w1.heap.size w1 W) => show W.rangeAt w.heap.size 0 zs.toList from ((F1.out.below h F1.out.lt).range' zs hz1.out (fun j hj => by rw [HZ.out]; exact strmV_get _ _ hj)))
  have hinf := hid (info25l hz1.out)
  have CS := hid (fun W (h : Below w1.heap.size w1 W) => small_c HZ.out (C1.out.below h))
  have hbl := hid hb
  have hgl := hid hg
  have HWF := hid hwf
  clear hzs hC hb hg hwf
  by_cases hsm : smallS s
  · rw [decide_eq_true hsm] at CS
    have hl16 := hid (show s.cells.length ≤ 1000 by have := hsm.1.1; omega)
    clear hsm
    by_cases hmay : mayS s
    · have HM := hid hmay
      obtain ⟨xs, hxs⟩ : ∃ xs, xs = encS s := ⟨_, rfl⟩
      have XL := hid (show xs.length ≤ 4900 ∧ 33 ≤ xs.length by rw [hxs]; exact encS_small hmay hbl.out hgl.out)
      have D1 := hid (show decS xs = (0, s) by rw [hxs]; exact dec_enc hmay hbl.out hgl.out)
      have D2 := hid (show ∀ k, k < xs.length → decS (xs.take k) = (2, Strm.zero) by rw [hxs]; exact dec_cut hmay hbl.out hgl.out)
      have D3 := hid (show decS (xs ++ [0]) = (3, Strm.zero) by rw [hxs]; exact dec_more hmay hbl.out hgl.out 0)
      have SH := hid (show shaL (xs.take (xs.length - 32)) = xs.drop (xs.length - 32) by rw [hxs]; exact (encS_end s).2)
      have HX := hid hxs
      have hxl := XL.out
      have n32 : ¬ (xs.length : Int) < 32 := by omega
      have n0 : ¬ (xs.length : Int) = 0 := by omega
      clear hmay hxs
      go_enter Try.func5, Try.ntmps5
      go_upto_region 1 with fail
      rw [← hw1]
      clear hw1
      have rs1 := RS.out w1 (Below.refl _ _)
      have CE := hid (fun W (h : Below w1.heap.size w1 W) => encode_c (w := W) HZ.out hbl.out hgl.out (C1.out.below h))
      go_upto_region 3 with (first
        | ((with_reducible refine at_op (.load 25 (.tmp 2)) rfl ?_); refine wpList_load_mid rfl 25 (.tmp 2) rfl w.heap.size 0 rfl zs.toList _ rs1 Try.underlying25 rfl hinf.out ?_)
        | (go_at_call 7; ((with_reducible refine (CS.out _ (Below.refl _ _)).mono ?_); rintro e w2 ⟨rfl, hb2⟩); have B2 := hid hb2; clear hb2))
      have rs2 := RS.out w2 B2.out
      have CE2 := hid (CE.out w2 B2.out)
      go_upto_region 4 with (first
        | ((with_reducible refine at_op (.load 25 (.tmp 2)) rfl ?_); refine wpList_load_mid rfl 25 (.tmp 2) rfl w.heap.size 0 rfl zs.toList _ rs2 Try.underlying25 rfl hinf.out ?_)
        | (go_at_call 9; ((with_reducible refine CE2.out.mono ?_); rintro e w3 ⟨hE3, hb3⟩; unfold EncAns at hE3; rw [if_pos HM.out, ← HX.out] at hE3; obtain ⟨v3, rfl, O3⟩ := hE3); have P3 := hid O3; have B3 := hid (B2.out.trans (hb3.mono B2.out.size)); clear O3 hb3))
      clear CE CE2 CS rs1 rs2
      obtain ⟨g3, c3, _, _, rfl, _, _, hc3, _⟩ := P3.out.byte (k := 0) (by omega)
      have Y3 := hid P3.out.bytes
      have YK := hid (fun W (h : Below w3.heap.size w3 W) k (hk : k ≤ xs.length) => (Y3.out.below h).take' k hk)
      obtain ⟨zz, hzz⟩ : ∃ zz, zz = strmV Strm.zero (.slice none 0 0) := ⟨_, rfl⟩
      have hz : ∀ W : World, (zeroValue 25).run Try.prog W = .ok (.agg zz) W := by rw [hzz]; exact strm_zero
      have HZZ := hid hzz
      have CD := hid (decode_is Y3.out (by omega) D1.out)
      clear hzz P3
      go_upto_region 6 with fail
      go_upto_region 7 with (first
        | (go_at_call 14; ((with_reducible refine CD.out.mono ?_); rintro e w4 ⟨cv4, z4, rfl, hz4, hs4, ho4, hC4, hb4⟩); have B4 := hid hb4; have HZ4 := hid hz4; have S4 := hid hs4; have O4 := hid ho4; have C4 := hid hC4; clear hz4 hs4 ho4 hC4 hb4)
        | ((with_reducible refine at_op (.store 25 (.tmp 7) (.tmp 50)) rfl ?_); refine wpList_store_mid rfl 25 (.tmp 7) (.tmp 50) rfl w4.heap.size 0 z4 rfl rfl (lay_there HZZ.out S4.out) (info25 S4.out) O4.out ?_))
      have F5 := hid (fn_lay (W := w4) (T := 25) HZZ.out HZ4.out)
      have L5 := hid (below_lay w4 25 zz z4 (Nat.le_refl _))
      obtain ⟨w5, hw5⟩ : ∃ w5, w5 = (w4.alloc (.cells zz 25)).setCells w4.heap.size 0 z4.toList := ⟨_, rfl⟩
      rw [← hw5] at F5 L5
      rw [← hw5]
      clear hw5
      obtain ⟨b7, hb7⟩ : ∃ b7, b7 = w4.heap.size := ⟨_, rfl⟩
      rw [← hb7] at F5
      rw [← hb7]
      clear hb7
      have B5 := hid (B4.out.trans (L5.out.mono B4.out.size))
      have C5 := hid (C4.out.below L5.out)
      have R7 := hid (fun (W : World) (h : Below w5.heap.size w5 W) => show W.rangeAt b7 0 z4.toList from (F5.out.below h F5.out.lt).range' z4 S4.out (fun j hj => by rw [HZ4.out]; exact strmV_get _ _ hj))
      clear CD B4 C4 L5
      go_upto_if 53 with fail
      obtain ⟨wb, rfl⟩ : ∃ wb, wb = w5 := ⟨_, rfl⟩
      go_cut [9] from 54 to 57 (fun v9 wr => ∃ k : Nat, v9 = .int .i64 k ∧ k < xs.length ∧ wb = wr)
      case first =>
        by_cases h0 : 0 < a
        · obtain ⟨m, rfl⟩ : ∃ m : Nat, a = m := ⟨a.toNat, by omega⟩
          have hm0 : 0 < m := by omega
          have htm : (m : Int).tmod (xs.length : Int) = ((m % xs.length : Nat) : Int) := by rw [Int.tmod_eq_emod_of_nonneg (by omega)]; rfl
          have hlt := Nat.mod_lt m (show 0 < xs.length by omega)
          go_wp2
          go_meet
          case rel =>
            exact ⟨m % xs.length, by go_num, hlt, rfl⟩
        · go_wp2
          go_meet
          case rel => exact ⟨0, rfl, by omega, rfl⟩
      case rest =>
        obtain ⟨k, rfl, hk, rfl⟩ := hcut
        have CD2 := hid (decode_is (YK.out wb B5.out k (by omega)) (by rw [List.length_take]; omega) (D2.out k hk))
        have hk3 : (k : Int) ≤ (c3 : Int) := by omega
        have hk0 : ¬ (k : Int) < 0 := by omega
        have hkn := hk
        go_upto_region 11 with (first
          | (go_at_call 14; ((with_reducible refine CD2.out.mono ?_); rintro e w6 ⟨cv6, z6, rfl, hz6, hs6, ho6, _, hb6⟩); have B6 := hid hb6; have HZ6 := hid hz6; have S6 := hid hs6; have O6 := hid ho6; clear hz6 hs6 ho6 hb6)
          | ((with_reducible refine at_op (.store 25 (.tmp 10) (.tmp 63)) rfl ?_); refine wpList_store_mid rfl 25 (.tmp 10) (.tmp 63) rfl w6.heap.size 0 z6 rfl rfl (lay_there HZZ.out S6.out) (info25 S6.out) O6.out ?_))
        have L7 := hid (B6.out.trans (below_lay w6 25 zz z6 B6.out.size))
        obtain ⟨w7, hw7⟩ : ∃ w7, w7 = (w6.alloc (.cells zz 25)).setCells w6.heap.size 0 z6.toList := ⟨_, rfl⟩
        rw [← hw7] at L7
        rw [← hw7]
        clear hw7 CD2 hk0 hk3 B6 HZ6 S6 O6 D2 hkn hk
        obtain ⟨mo, hmo⟩ : ∃ mo : List W8, mo = xs ++ [0] := ⟨_, rfl⟩
        have HMO := hid hmo
        clear hmo
        have O8 := hid (Ow.empty w7 (Nat.le_refl w7.heap.size))
        have L8 := hid ((Below.refl w7.heap.size w7).alloc (Nat.le_refl _) (.cells #[] 5))
        have Y8 := hid (((Y3.out.below B5.out).below L7.out).below L8.out)
        go_upto_region 12 with (at_builtin; refine wpList_app rfl (.tmp 65) (.tmp 66) rfl rfl rfl O8.out Y8.out (by simp only [List.length_nil]; omega) L8.out.size ?_; intro v9 w9 O9 M9 _; have P9 := hid O9; have L9 := hid (M9.own_below O8.out L8.out.size L8.out); clear O9 M9)
        have P9 : Hid (Ow w9 w7.heap.size v9 xs) := P9
        obtain ⟨p9, c9, rfl⟩ := P9.out.slice
        have LX := hid (L9.out.alloc L9.out.size (.cells #[.int .u8 0] 5))
        go_upto_region 13 with (at_builtin; refine wpList_app rfl (.tmp 68) (.tmp 69) rfl rfl rfl (P9.out.alloc _) (Bytes.one' (b := 0) rfl) (by simp only [List.length_cons, List.length_nil]; omega) LX.out.size ?_; intro v10 w10 O10 M10 _; rw [← HMO.out] at O10; have P10 := hid O10; have L10 := hid (M10.own_below (P9.out.alloc _) LX.out.size LX.out); clear O10 M10)
        obtain ⟨p10, c10, rfl⟩ := P10.out.slice
        have CD3 := hid (decode_is (k := 3) (s := Strm.zero) P10.out.bytes (by rw [HMO.out, List.length_append]; have := hxl; show xs.length + 1 ≤ 5100; omega) (by rw [HMO.out]; exact D3.out))
        go_upto_region 14 with (first
          | (go_at_call 14; ((with_reducible refine CD3.out.mono ?_); rintro e w11 ⟨cv11, z11, rfl, hz11, hs11, ho11, _, hb11⟩); have B11 := hid hb11; have HZ11 := hid hz11; have S11 := hid hs11; have O11 := hid ho11; clear hz11 hs11 ho11 hb11)
          | ((with_reducible refine at_op (.store 25 (.tmp 13) (.tmp 74)) rfl ?_); refine wpList_store_mid rfl 25 (.tmp 13) (.tmp 74) rfl w11.heap.size 0 z11 rfl rfl (lay_there HZZ.out S11.out) (info25 S11.out) O11.out ?_))
        have L12 := hid (L10.out.trans ((B11.out.trans (below_lay w11 25 zz z11 B11.out.size)).mono L10.out.size))
        obtain ⟨w12, hw12⟩ : ∃ w12, w12 = (w11.alloc (.cells zz 25)).setCells w11.heap.size 0 z11.toList := ⟨_, rfl⟩
        rw [← hw12] at L12
        rw [← hw12]
        clear hw12 CD3 B11 HZ11 S11 O11 P10 P9 LX L10 L9 O8 Y8 D3
        have B12 := hid (L7.out.trans (L12.out.mono L7.out.size))
        have BY12 := hid (B5.out.trans (B12.out.mono B5.out.size))
        have hsub : (xs.length : Int) - 32 = ((xs.length - 32 : Nat) : Int) := by omega
        obtain ⟨q, hq⟩ : ∃ q, q = xs.length - 32 := ⟨_, rfl⟩
        rw [← hq] at hsub SH
        have CSH := hid (shaSum_l (YK.out w12 BY12.out q (by omega)) (by rw [List.length_take]; omega))
        rw [SH.out] at CSH
        have hzq : ∀ W : World, (zeroValue 22).run Try.prog W = .ok (.agg (hl32 zero32)) W := zero_h32
        have h32s := hid (fun ys : List W8 => show (Try.prog.info? 22).map (·.size) = some (hl32 ys).size from by rw [hl32_size]; kernel_rfl)
        obtain ⟨ys, hys⟩ : ∃ ys, ys = xs.drop q := ⟨_, rfl⟩
        have YL := hid (show ys.length = 32 by rw [hys, List.length_drop]; omega)
        rw [← hys] at CSH
        have HYS := hid hys
        clear hys
        have hqn : (q : Int) ≤ (xs.length : Int) := by omega
        have hqc : (q : Int) ≤ (c3 : Int) := by omega
        have hq0 : ¬ (q : Int) < 0 := by omega
        have hqk := hid (show q ≤ xs.length by omega)
        have hwq : IntKind.i64.wrap (q : Int) = (q : Int) := by simp [IntKind.wrap, IntKind.bits, IntKind.signed]; omega
        have HQ := hid hq
        clear hq
        go_upto_region 15 with (first
          | ((with_reducible refine at_op (.store 22 (.tmp 15) (.tmp 81)) rfl ?_); refine wpList_store_mid rfl 22 (.tmp 15) (.tmp 81) rfl w13.heap.size 0 (hl32 ys) rfl rfl (by rw [hl32_size]; exact (Fn.new w13 (hl32 zero32) 22 (hl32_size _) (fun j hj => hl32_get _ hj)).there 0 32 (by decide)) (h32s.out _) (hl32_one _) ?_)
          | (go_at_call 17; ((with_reducible refine CSH.out.mono ?_); rintro e w13 ⟨rfl, hb13⟩; have B13 := hid hb13; clear hb13)))
        have M14 := hid (show Mod (fun k => k = w13.heap.size) w13 ((w13.alloc (.cells (hl32 zero32) 22)).setCells w13.heap.size 0 (hl32 ys).toList) from ((Mod.refl _ _).alloc _).trans (Mod.cells _ _ _ _))
        have F14 := hid (show Fn ((w13.alloc (.cells (hl32 zero32) 22)).setCells w13.heap.size 0 (hl32 ys).toList) w13.heap.size 22 32 (fun j => .int .u8 (ub (ys.getD j 0))) from
          (Fn.new w13 (hl32 zero32) 22 (hl32_size _) (fun j hj => hl32_get _ hj)).storeAll (fun j => .int .u8 (ub (ys.getD j 0))))
        have LL := hid (show Below w13.heap.size w13 _ from M14.out.below (Nat.le_refl _) (fun k hk e => by omega))
        obtain ⟨w14, hw14⟩ : ∃ w14, w14 = (w13.alloc (.cells (hl32 zero32) 22)).setCells w13.heap.size 0 (hl32 ys).toList := ⟨_, rfl⟩
        rw [← hw14] at F14 M14 LL
        rw [← hw14]
        clear hw14 M14
        obtain ⟨b15, hb15⟩ : ∃ b15, b15 = w13.heap.size := ⟨_, rfl⟩
        rw [← hb15] at F14
        rw [← hb15]
        clear hb15
        have B14 := hid (show Below wb.heap.size wb w14 from B12.out.trans ((B13.out.trans (LL.out.mono B13.out.size)).mono B12.out.size))
        have Y14 := hid (bytes_range YL.out (Fn.lt F14.out) (F14.out.range' (hl32 ys) (hl32_size _) (fun j hj => hl32_get _ hj)))
        have YD := hid (show Bytes w14 (.slice (some (cutAt ⟨g3, 0, none⟩ c3 q)) (xs.length - q) (c3 - q)) ys from by rw [HYS.out]; exact ((Y3.out.below B5.out).below B14.out).drop q hqk.out)
        have A14 := hid (B5.out.trans (B14.out.mono B5.out.size))
        have AB14 := hid (B3.out.trans (A14.out.mono B3.out.size))
        have CP1 := hid (fun W (h : Below w14.heap.size w14 W) => plain_c (w := W) HZ.out ((C1.out.below AB14.out).below h) hl16.out)
        have CP2 := hid (fun W (h : Below w14.heap.size w14 W) => plain_c (w := W) HZ4.out ((C5.out.below B14.out).below h) hl16.out)
        have RS1 := hid (fun W (h : Below w14.heap.size w14 W) => RS.out W (AB14.out.trans (h.mono AB14.out.size)))
        have RS7 := hid (fun W (h : Below w14.heap.size w14 W) => R7.out W (B14.out.trans (h.mono B14.out.size)))
        clear CSH B13 LL
        simp only [Act.put]
        have hrefl : ∀ w : World, Below w.heap.size w w := fun w => Below.refl _ w
        obtain ⟨bw, hbw⟩ : ∃ bw, bw = w.heap.size := ⟨_, rfl⟩
        have RSb := hid (fun (W : World) h => show W.rangeAt bw 0 zs.toList from by rw [hbw]; exact RS1.out W h)
        rw [← hbw]
        clear hbw RS1
        refine region_rel (n := 113) (B := fun w' => Below w14.heap.size w14 w') (E := fun w w' => Below w.heap.size w w') (φ := (fun (kq : Nat) (v : Value) (w : World) => if kq = 7 then ∃ c, v = .agg (strmV s c) ∧ CellsAt w c s.cells else if kq = 9 then ∃ c, v = .agg (strmV s c) ∧ CellsAt w c s.cells else v = ([.bool true, .bool true, .int .i64 0, .bool true, .bool true, .bool true, .agg zs, undef, .agg z4, undef, .bool true, .bool true, .bool true, .int .i64 2, .bool true, .bool true, .bool true, .int .i64 3, .bool true, .bool true, .bool true, .slice (some ⟨b15, 0, none⟩) 32 32, .string (str ys), .slice (some ⟨g3, 0, none⟩) xs.length c3, .slice (some ⟨g3, 0, none⟩) xs.length c3, .int .i64 (xs.length : Int), .int .i64 (q : Int), .slice (some (cutAt ⟨g3, 0, none⟩ c3 q)) (xs.length - q) (c3 - q), .string (str ys), .bool true, .bool true, .bool true] : List Value).getD kq undef)) (by kernel_rfl) (by kernel_rfl) (by kernel_rfl) (by kernel_rfl) ?mono hrefl ((Below.refl _ _).drew) ?hop ?hend
        case mono =>
          intro j v w w' h hE
          split at h
          · rename_i hj
            subst hj
            obtain ⟨c, h1, h2⟩ := h
            exact ⟨c, h1, h2.below hE⟩
          · rename_i hj
            rw [if_neg hj]
            split at h
            · rename_i hj2
              subst hj2
              obtain ⟨c, h1, h2⟩ := h
              exact ⟨c, h1, h2.below hE⟩
            · rename_i hj2
              rw [if_neg hj2]
              exact h
        case hop =>
          refine And.intro ?_ ?_
          · intro V ρ w hB hc hf hd hs
            clear hd hs
            refine outcome_enter (w := w) (f := 8) (args := #[]) (by simp [go_sem, hf]) ?_
            refine (alive_c w).mono ?_
            rintro e w' ⟨rfl, Lx⟩
            exact ⟨_, rfl, rfl, hB.trans (Lx.mono hB.size), Lx⟩
          refine And.intro ?_ ?_
          · intro V ρ w hB hc hf hd hs
            have s82 : ρ (.tmp 82) = .bool true := (hd 0 (by kernel_rfl) 82 (by kernel_rfl)).2.trans (hd 0 (by kernel_rfl) 82 (by kernel_rfl)).1
            clear hd hs
            rw [BigFrame.run_move (.tmp 82) rfl]
            exact ⟨s82, hB, hrefl w⟩
          refine And.intro ?_ ?_
          · intro V ρ w hB hc hf hd hs
            have s8 : ρ (.tmp 8) = .int .i64 0 := hs 8 (by kernel_rfl)
            refine Or.inl ⟨(hd 1 (by kernel_rfl) 83 (by kernel_rfl)).1, ?_⟩
            clear hd hs
            rw [BigFrame.run_move (.tmp 8) rfl]
            exact ⟨s8, hB, hrefl w⟩
          refine And.intro ?_ ?_
          · intro V ρ w hB hc hf hd hs
            have s84 : ρ (.tmp 84) = .int .i64 0 := (hd 2 (by kernel_rfl) 84 (by kernel_rfl)).2.trans (hd 2 (by kernel_rfl) 84 (by kernel_rfl)).1
            refine Or.inl ⟨(hd 1 (by kernel_rfl) 83 (by kernel_rfl)).1, ?_⟩
            clear hd hs
            refine outcome_value (v := .bool true) ?_ ⟨rfl, hB, hrefl w⟩
            simp [go_sem, hc, s84]
          refine And.intro ?_ ?_
          · intro V ρ w hB hc hf hd hs
            have s83 : ρ (.tmp 83) = .bool true := (hd 1 (by kernel_rfl) 83 (by kernel_rfl)).2.trans (hd 1 (by kernel_rfl) 83 (by kernel_rfl)).1
            have s85 : ρ (.tmp 85) = .bool true := (hd 3 (by kernel_rfl) 85 (by kernel_rfl)).2.trans (hd 3 (by kernel_rfl) 85 (by kernel_rfl)).1
            clear hd hs
            refine outcome_value (v := .bool true) ?_ ⟨rfl, hB, hrefl w⟩
            simp [go_sem, hc, s83, s85]
          refine And.intro ?_ ?_
          · intro V ρ w hB hc hf hd hs
            have s86 : ρ (.tmp 86) = .bool true := (hd 4 (by kernel_rfl) 86 (by kernel_rfl)).2.trans (hd 4 (by kernel_rfl) 86 (by kernel_rfl)).1
            clear hd hs
            rw [BigFrame.run_move (.tmp 86) rfl]
            exact ⟨s86, hB, hrefl w⟩
          refine And.intro ?_ ?_
          · intro V ρ w hB hc hf hd hs
            have s2 : ρ (.tmp 2) = .pointer (some ⟨bw, 0, none⟩) := hs 2 (by kernel_rfl)
            refine Or.inl ⟨(hd 5 (by kernel_rfl) 87 (by kernel_rfl)).1, ?_⟩
            clear hd hs
            exact outcome_value (v := .agg zs) (run_load_row rfl s2 (RSb.out _ hB) Try.underlying25 rfl (info25 hz1.out)) ⟨rfl, hB, hrefl w⟩
          refine And.intro ?_ ?_
          · intro V ρ w hB hc hf hd hs
            have s88 : ρ (.tmp 88) = .agg zs := (hd 6 (by kernel_rfl) 88 (by kernel_rfl)).2.trans (hd 6 (by kernel_rfl) 88 (by kernel_rfl)).1
            refine Or.inl ⟨(hd 5 (by kernel_rfl) 87 (by kernel_rfl)).1, ?_⟩
            clear hd hs
            refine outcome_enter (w := w) (f := 11) (args := #[.agg zs]) (by simp [go_sem, hf, s88]) ?_
            refine (CP1.out _ hB).mono ?_
            rintro e w' ⟨c, rfl, hC, Lx⟩
            exact ⟨_, rfl, Eq.mpr (if_pos rfl) ⟨c, rfl, hC⟩, hB.trans (Lx.mono hB.size), Lx⟩
          refine And.intro ?_ ?_
          · intro V ρ w hB hc hf hd hs
            have s7 : ρ (.tmp 7) = .pointer (some ⟨b7, 0, none⟩) := hs 7 (by kernel_rfl)
            refine Or.inl ⟨(hd 5 (by kernel_rfl) 87 (by kernel_rfl)).1, ?_⟩
            clear hd hs
            exact outcome_value (v := .agg z4) (run_load_row rfl s7 (RS7.out _ hB) Try.underlying25 rfl (info25 S4.out)) ⟨rfl, hB, hrefl w⟩
          refine And.intro ?_ ?_
          · intro V ρ w hB hc hf hd hs
            have s90 : ρ (.tmp 90) = .agg z4 := (hd 8 (by kernel_rfl) 90 (by kernel_rfl)).2.trans (hd 8 (by kernel_rfl) 90 (by kernel_rfl)).1
            refine Or.inl ⟨(hd 5 (by kernel_rfl) 87 (by kernel_rfl)).1, ?_⟩
            clear hd hs
            refine outcome_enter (w := w) (f := 11) (args := #[.agg z4]) (by simp [go_sem, hf, s90]) ?_
            refine (CP2.out _ hB).mono ?_
            rintro e w' ⟨c, rfl, hC, Lx⟩
            exact ⟨_, rfl, Eq.mpr (if_neg (by decide)) <| Eq.mpr (if_pos rfl) ⟨c, rfl, hC⟩, hB.trans (Lx.mono hB.size), Lx⟩
          refine And.intro ?_ ?_
          · intro V ρ w hB hc hf hd hs
            obtain ⟨f89, s89⟩ := hd 7 (by kernel_rfl) 89 (by kernel_rfl)
            obtain ⟨f91, s91⟩ := hd 9 (by kernel_rfl) 91 (by kernel_rfl)
            refine Or.inl ⟨(hd 5 (by kernel_rfl) 87 (by kernel_rfl)).1, ?_⟩
            clear hd hs
            obtain ⟨c, hv, hC⟩ := Eq.mp (if_pos rfl) f89
            obtain ⟨c2, hv2, hC2⟩ := Eq.mp (if_pos rfl) (Eq.mp (if_neg (by decide)) f91)
            rw [hv] at s89
            rw [hv2] at s91
            refine outcome_enter (w := w) (f := 16) (args := #[.agg (strmV s c), .agg (strmV s c2)]) (by simp [go_sem, hf, s89, s91]) ?_
            refine (same_c rfl rfl hbl.out hgl.out hC hC2).mono ?_
            rintro e w' ⟨rfl, Lx⟩
            exact ⟨_, rfl, rfl, hB.trans (Lx.mono hB.size), Lx⟩
          refine And.intro ?_ ?_
          · intro V ρ w hB hc hf hd hs
            have s87 : ρ (.tmp 87) = .bool true := (hd 5 (by kernel_rfl) 87 (by kernel_rfl)).2.trans (hd 5 (by kernel_rfl) 87 (by kernel_rfl)).1
            have s92 : ρ (.tmp 92) = .bool true := (hd 10 (by kernel_rfl) 92 (by kernel_rfl)).2.trans (hd 10 (by kernel_rfl) 92 (by kernel_rfl)).1
            clear hd hs
            refine outcome_value (v := .bool true) ?_ ⟨rfl, hB, hrefl w⟩
            simp [go_sem, hc, s87, s92]
          refine And.intro ?_ ?_
          · intro V ρ w hB hc hf hd hs
            have s93 : ρ (.tmp 93) = .bool true := (hd 11 (by kernel_rfl) 93 (by kernel_rfl)).2.trans (hd 11 (by kernel_rfl) 93 (by kernel_rfl)).1
            clear hd hs
            rw [BigFrame.run_move (.tmp 93) rfl]
            exact ⟨s93, hB, hrefl w⟩
          refine And.intro ?_ ?_
          · intro V ρ w hB hc hf hd hs
            have s11 : ρ (.tmp 11) = .int .i64 2 := hs 11 (by kernel_rfl)
            refine Or.inl ⟨(hd 12 (by kernel_rfl) 94 (by kernel_rfl)).1, ?_⟩
            clear hd hs
            rw [BigFrame.run_move (.tmp 11) rfl]
            exact ⟨s11, hB, hrefl w⟩
          refine And.intro ?_ ?_
          · intro V ρ w hB hc hf hd hs
            have s95 : ρ (.tmp 95) = .int .i64 2 := (hd 13 (by kernel_rfl) 95 (by kernel_rfl)).2.trans (hd 13 (by kernel_rfl) 95 (by kernel_rfl)).1
            refine Or.inl ⟨(hd 12 (by kernel_rfl) 94 (by kernel_rfl)).1, ?_⟩
            clear hd hs
            refine outcome_value (v := .bool true) ?_ ⟨rfl, hB, hrefl w⟩
            simp [go_sem, hc, s95]
          refine And.intro ?_ ?_
          · intro V ρ w hB hc hf hd hs
            have s94 : ρ (.tmp 94) = .bool true := (hd 12 (by kernel_rfl) 94 (by kernel_rfl)).2.trans (hd 12 (by kernel_rfl) 94 (by kernel_rfl)).1
            have s96 : ρ (.tmp 96) = .bool true := (hd 14 (by kernel_rfl) 96 (by kernel_rfl)).2.trans (hd 14 (by kernel_rfl) 96 (by kernel_rfl)).1
            clear hd hs
            refine outcome_value (v := .bool true) ?_ ⟨rfl, hB, hrefl w⟩
            simp [go_sem, hc, s94, s96]
          refine And.intro ?_ ?_
          · intro V ρ w hB hc hf hd hs
            have s97 : ρ (.tmp 97) = .bool true := (hd 15 (by kernel_rfl) 97 (by kernel_rfl)).2.trans (hd 15 (by kernel_rfl) 97 (by kernel_rfl)).1
            clear hd hs
            rw [BigFrame.run_move (.tmp 97) rfl]
            exact ⟨s97, hB, hrefl w⟩
          refine And.intro ?_ ?_
          · intro V ρ w hB hc hf hd hs
            have s14 : ρ (.tmp 14) = .int .i64 3 := hs 14 (by kernel_rfl)
            refine Or.inl ⟨(hd 16 (by kernel_rfl) 98 (by kernel_rfl)).1, ?_⟩
            clear hd hs
            rw [BigFrame.run_move (.tmp 14) rfl]
            exact ⟨s14, hB, hrefl w⟩
          refine And.intro ?_ ?_
          · intro V ρ w hB hc hf hd hs
            have s99 : ρ (.tmp 99) = .int .i64 3 := (hd 17 (by kernel_rfl) 99 (by kernel_rfl)).2.trans (hd 17 (by kernel_rfl) 99 (by kernel_rfl)).1
            refine Or.inl ⟨(hd 16 (by kernel_rfl) 98 (by kernel_rfl)).1, ?_⟩
            clear hd hs
            refine outcome_value (v := .bool true) ?_ ⟨rfl, hB, hrefl w⟩
            simp [go_sem, hc, s99]
          refine And.intro ?_ ?_
          · intro V ρ w hB hc hf hd hs
            have s98 : ρ (.tmp 98) = .bool true := (hd 16 (by kernel_rfl) 98 (by kernel_rfl)).2.trans (hd 16 (by kernel_rfl) 98 (by kernel_rfl)).1
            have s100 : ρ (.tmp 100) = .bool true := (hd 18 (by kernel_rfl) 100 (by kernel_rfl)).2.trans (hd 18 (by kernel_rfl) 100 (by kernel_rfl)).1
            clear hd hs
            refine outcome_value (v := .bool true) ?_ ⟨rfl, hB, hrefl w⟩
            simp [go_sem, hc, s98, s100]
          refine And.intro ?_ ?_
          · intro V ρ w hB hc hf hd hs
            have s101 : ρ (.tmp 101) = .bool true := (hd 19 (by kernel_rfl) 101 (by kernel_rfl)).2.trans (hd 19 (by kernel_rfl) 101 (by kernel_rfl)).1
            clear hd hs
            rw [BigFrame.run_move (.tmp 101) rfl]
            exact ⟨s101, hB, hrefl w⟩
          refine And.intro ?_ ?_
          · intro V ρ w hB hc hf hd hs
            have s15 : ρ (.tmp 15) = .pointer (some ⟨b15, 0, none⟩) := hs 15 (by kernel_rfl)
            refine Or.inl ⟨(hd 20 (by kernel_rfl) 102 (by kernel_rfl)).1, ?_⟩
            clear hd hs
            refine outcome_value (v := .slice (some ⟨b15, 0, none⟩) 32 32) ?_ ⟨rfl, hB, hrefl w⟩
            simp [go_sem, s15]
          refine And.intro ?_ ?_
          · intro V ρ w hB hc hf hd hs
            have s103 : ρ (.tmp 103) = .slice (some ⟨b15, 0, none⟩) 32 32 := (hd 21 (by kernel_rfl) 103 (by kernel_rfl)).2.trans (hd 21 (by kernel_rfl) 103 (by kernel_rfl)).1
            refine Or.inl ⟨(hd 20 (by kernel_rfl) 102 (by kernel_rfl)).1, ?_⟩
            clear hd hs
            exact outcome_value (run_conv rfl s103 (conv_str' (Y14.out.below hB))) ⟨rfl, hB, hrefl w⟩
          refine And.intro ?_ ?_
          · intro V ρ w hB hc hf hd hs
            have s5 : ρ (.tmp 5) = .slice (some ⟨g3, 0, none⟩) xs.length c3 := hs 5 (by kernel_rfl)
            refine Or.inl ⟨(hd 20 (by kernel_rfl) 102 (by kernel_rfl)).1, ?_⟩
            clear hd hs
            rw [BigFrame.run_move (.tmp 5) rfl]
            exact ⟨s5, hB, hrefl w⟩
          refine And.intro ?_ ?_
          · intro V ρ w hB hc hf hd hs
            have s5 : ρ (.tmp 5) = .slice (some ⟨g3, 0, none⟩) xs.length c3 := hs 5 (by kernel_rfl)
            refine Or.inl ⟨(hd 20 (by kernel_rfl) 102 (by kernel_rfl)).1, ?_⟩
            clear hd hs
            rw [BigFrame.run_move (.tmp 5) rfl]
            exact ⟨s5, hB, hrefl w⟩
          refine And.intro ?_ ?_
          · intro V ρ w hB hc hf hd hs
            have s106 : ρ (.tmp 106) = .slice (some ⟨g3, 0, none⟩) xs.length c3 := (hd 24 (by kernel_rfl) 106 (by kernel_rfl)).2.trans (hd 24 (by kernel_rfl) 106 (by kernel_rfl)).1
            refine Or.inl ⟨(hd 20 (by kernel_rfl) 102 (by kernel_rfl)).1, ?_⟩
            clear hd hs
            refine outcome_value (v := .int .i64 (xs.length : Int)) ?_ ⟨rfl, hB, hrefl w⟩
            simp [go_sem, s106]
          refine And.intro ?_ ?_
          · intro V ρ w hB hc hf hd hs
            have s107 : ρ (.tmp 107) = .int .i64 (xs.length : Int) := (hd 25 (by kernel_rfl) 107 (by kernel_rfl)).2.trans (hd 25 (by kernel_rfl) 107 (by kernel_rfl)).1
            refine Or.inl ⟨(hd 20 (by kernel_rfl) 102 (by kernel_rfl)).1, ?_⟩
            clear hd hs
            refine outcome_value (v := .int .i64 (q : Int)) ?_ ⟨rfl, hB, hrefl w⟩
            simp [go_sem, hc, s107, hsub, hwq]
          refine And.intro ?_ ?_
          · intro V ρ w hB hc hf hd hs
            have s105 : ρ (.tmp 105) = .slice (some ⟨g3, 0, none⟩) xs.length c3 := (hd 23 (by kernel_rfl) 105 (by kernel_rfl)).2.trans (hd 23 (by kernel_rfl) 105 (by kernel_rfl)).1
            have s108 : ρ (.tmp 108) = .int .i64 (q : Int) := (hd 26 (by kernel_rfl) 108 (by kernel_rfl)).2.trans (hd 26 (by kernel_rfl) 108 (by kernel_rfl)).1
            refine Or.inl ⟨(hd 20 (by kernel_rfl) 102 (by kernel_rfl)).1, ?_⟩
            clear hd hs
            exact outcome_value (v := .slice (some (cutAt ⟨g3, 0, none⟩ c3 q)) (xs.length - q) (c3 - q)) (by simp [go_sem, sliced, s105, s108, hqn, hq0, cutAt]; split <;> rfl) ⟨rfl, hB, hrefl w⟩
          refine And.intro ?_ ?_
          · intro V ρ w hB hc hf hd hs
            have s109 : ρ (.tmp 109) = .slice (some (cutAt ⟨g3, 0, none⟩ c3 q)) (xs.length - q) (c3 - q) := (hd 27 (by kernel_rfl) 109 (by kernel_rfl)).2.trans (hd 27 (by kernel_rfl) 109 (by kernel_rfl)).1
            refine Or.inl ⟨(hd 20 (by kernel_rfl) 102 (by kernel_rfl)).1, ?_⟩
            clear hd hs
            exact outcome_value (run_conv rfl s109 (conv_str' (YD.out.below hB))) ⟨rfl, hB, hrefl w⟩
          refine And.intro ?_ ?_
          · intro V ρ w hB hc hf hd hs
            have s104 : ρ (.tmp 104) = .string (str ys) := (hd 22 (by kernel_rfl) 104 (by kernel_rfl)).2.trans (hd 22 (by kernel_rfl) 104 (by kernel_rfl)).1
            have s110 : ρ (.tmp 110) = .string (str ys) := (hd 28 (by kernel_rfl) 110 (by kernel_rfl)).2.trans (hd 28 (by kernel_rfl) 110 (by kernel_rfl)).1
            refine Or.inl ⟨(hd 20 (by kernel_rfl) 102 (by kernel_rfl)).1, ?_⟩
            clear hd hs
            refine outcome_value (v := .bool true) ?_ ⟨rfl, hB, hrefl w⟩
            simp [go_sem, s104, s110]
          refine And.intro ?_ ?_
          · intro V ρ w hB hc hf hd hs
            have s102 : ρ (.tmp 102) = .bool true := (hd 20 (by kernel_rfl) 102 (by kernel_rfl)).2.trans (hd 20 (by kernel_rfl) 102 (by kernel_rfl)).1
            have s111 : ρ (.tmp 111) = .bool true := (hd 29 (by kernel_rfl) 111 (by kernel_rfl)).2.trans (hd 29 (by kernel_rfl) 111 (by kernel_rfl)).1
            clear hd hs
            refine outcome_value (v := .bool true) ?_ ⟨rfl, hB, hrefl w⟩
            simp [go_sem, hc, s102, s111]
          refine And.intro ?_ ?_
          · intro V ρ w hB hc hf hd hs
            have s112 : ρ (.tmp 112) = .bool true := (hd 30 (by kernel_rfl) 112 (by kernel_rfl)).2.trans (hd 30 (by kernel_rfl) 112 (by kernel_rfl)).1
            clear hd hs
            rw [BigFrame.run_assign (.tmp 112) rfl]
            exact ⟨s112, hB, hrefl w⟩
          exact trivial
        case hend =>
          intro V w15 hB15 hV
          have v31 : V 31 = .bool true := hV 31 (by decide)
          simp only [lexF, Act.put, List.setIfInBounds_toArray, List.set_cons_zero, List.set_cons_succ, v31]
          have B15 := hid (AB14.out.trans (hB15.mono AB14.out.size))
          clear hV hB15 v31 hrefl
          go_wp2
          go_ret
          exact ⟨rfl, L1.out.trans (B15.out.mono L1.out.size)⟩
    · have HM := hid hmay
      clear hmay
      go_enter Try.func5, Try.ntmps5
      go_upto_region 1 with fail
      rw [← hw1]
      clear hw1
      have LD := hid (fun W (h : Below w1.heap.size w1 W) => RS.out W h)
      have CE := hid (fun W (h : Below w1.heap.size w1 W) => encode_c (w := W) HZ.out hbl.out hgl.out (C1.out.below h))
      have CM := hid (fun W (h : Below w1.heap.size w1 W) => may_c (w := W) HZ.out hbl.out (C1.out.below h))
      rw [decide_eq_false HM.out] at CM
      go_wp2_with (first
        | ((with_reducible refine at_op (.load 25 (.tmp 2)) rfl ?_); first | refine wpList_load_g (by rfl) 25 (.tmp 2) rfl w.heap.size 0 rfl zs.toList _ (RS.out _ B4.out) Try.underlying25 rfl hinf.out ?_ | refine wpList_load_mid rfl 25 (.tmp 2) rfl w.heap.size 0 rfl zs.toList _ (RS.out _ B2.out) Try.underlying25 rfl hinf.out ?_ | refine wpList_load_mid rfl 25 (.tmp 2) rfl w.heap.size 0 rfl zs.toList _ (RS.out _ (Below.refl _ _)) Try.underlying25 rfl hinf.out ?_)
        | (go_at_call 7; ((with_reducible refine (CS.out _ (Below.refl _ _)).mono ?_); rintro e w2 ⟨rfl, hb2⟩); have B2 := hid hb2; clear hb2)
        | (go_at_call 9; ((with_reducible refine (CE.out _ B2.out).mono ?_); rintro e w3 ⟨hE3, hb3⟩; unfold EncAns at hE3; rw [if_neg HM.out] at hE3; subst hE3); have B3 := hid (B2.out.trans (hb3.mono B2.out.size)); clear hb3)
        | (go_at_call 8; ((with_reducible refine (alive_c _).mono ?_); rintro e w4 ⟨rfl, hb4⟩); have B4 := hid (B3.out.trans (hb4.mono B3.out.size)); clear hb4)
        | (go_at_call 12; ((with_reducible refine (CM.out _ B4.out).mono ?_); rintro e w5 ⟨rfl, hb5⟩); have B5 := hid (B4.out.trans (hb5.mono B4.out.size)); clear hb5))
      go_ret
      exact ⟨rfl, L1.out.trans (B5.out.mono L1.out.size)⟩
  · rw [decide_eq_false hsm] at CS
    clear hsm
    go_enter Try.func5, Try.ntmps5
    go_upto_region 1 with fail
    rw [← hw1]
    clear hw1
    have rs1 := RS.out w1 (Below.refl _ _)
    go_wp2_with (first
      | ((with_reducible refine at_op (.load 25 (.tmp 2)) rfl ?_); refine wpList_load_mid rfl 25 (.tmp 2) rfl w.heap.size 0 rfl zs.toList _ rs1 Try.underlying25 rfl hinf.out ?_)
      | (go_at_call 7; ((with_reducible refine (CS.out _ (Below.refl _ _)).mono ?_); rintro e w2 ⟨rfl, hb2⟩); have B2 := hid hb2; clear hb2)
      | (go_at_call 8; ((with_reducible refine (alive_c _).mono ?_); rintro e w3 ⟨rfl, hb3⟩); have B3 := hid (B2.out.trans (hb3.mono B2.out.size)); clear hb3))
    go_ret
    exact ⟨rfl, L1.out.trans (B3.out.mono L1.out.size)⟩
end Go.Proofs.Ytpbkdjnogjmfcaa

