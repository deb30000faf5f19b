/- The walk of SpacePlays. -/
import Derived.Test.YtdmlldhlfofegaaDoorPlayState
namespace Go.Proofs.YtdmlldhlfofegaaDoor
open Go.RowKit

set_option maxRecDepth 100000 in
set_option linter.unusedSimpArgs false in
set_option maxHeartbeats 16000000 in
theorem plays_walk {w : World} (T : Tab w) (n : Int) (p : Option Addr) (len cap : Nat) (hl : len ≤ maxLen) (hs : Acts6 w p len) : Calls Tryd.prog 4 #[.int .i64 n, .slice p len cap] w fun e w' => e = .returned (.bool true) ∧ Below w.heap.size w w' := by
  have h0 := T.lt
  have HT := hid T
  have HS := hid hs
  have hl' : (len : Int) ≤ 9223372036854775807 := by simp only [maxLen] at hl; omega
  have hrefl : ∀ w : World, Below w.heap.size w w := fun w => Below.refl _ _
  have HRF := hid hrefl
  clear hs T hl hrefl
  go_enter Tryd.func4, Tryd.ntmps4
  by_cases hn : n < 16 ∨ 512 < n
  · go_wp2_with first
      | (go_at_call 9; refine (alive_c T9.out).mono ?_; rintro e w9 ⟨rfl, Lx⟩; have L9 := hid (L2.out.trans (Lx.mono L2.out.size)); clear Lx)
      | (go_at_call 8; refine (new_no _ n hn).mono ?_; rintro e w' ⟨rfl, rfl⟩)
      | (go_at_call 15; refine (rnew_no _ n hn).mono ?_; rintro e w2 ⟨rfl, Lx⟩; have L2 := hid (Lx.alloc Lx.size (.cells #[.slice none 0 0] 41)); have T9 := hid (HT.out.below L2.out h0); clear Lx)
    skip
    go_loopg [9] 1 (fun gk v9 wr => v9 = .int .i64 0 ∧ gk = 1 ∧ wr = w2.alloc (.cells #[.slice none 0 0] 41))
    case atStart => exact ⟨rfl, rfl, rfl⟩
    case round =>
      obtain ⟨rfl, rfl, rfl⟩ := hrel
      go_wp2_with (go_at_call 9; refine (alive_c T9.out).mono ?_; rintro e w9 ⟨rfl, Lx⟩; have L9 := hid (L2.out.trans (Lx.mono L2.out.size)); clear Lx)
      go_ret
      exact ⟨rfl, L9.out⟩
  · obtain ⟨m, rfl⟩ : ∃ m : Nat, n = m := ⟨n.toNat, by omega⟩
    have hm1 : 16 ≤ m := by omega
    have hm2 : m ≤ 512 := by omega
    clear hn
    go_upto_region 3 with first
      | (go_at_call 8; refine (new_yes _ m hm1 hm2).mono ?_; rintro e w1 ⟨b, hb, rfl, M1, L1⟩; have HM1 := hid M1; have HL1 := hid L1; clear M1 L1)
      | (go_at_call 15; refine (rnew_yes _ m hm1 hm2).mono ?_; rintro e w2 ⟨v2, rfl, hz2, rfl, F2, Lx⟩; have HM2 := hid (HM1.out.below Lx HM1.out.lt); have HL2 := hid (HL1.out.trans (Lx.mono HL1.out.size)); have HF2 := hid F2; have hb2 := Fn.lt HM2.out; clear Lx F2 hz2)
    obtain ⟨rb0, hrb0⟩ : ∃ x, x = w1.heap.size + 1 := ⟨_, rfl⟩
    rw [← hrb0] at HF2 ⊢
    clear hrb0
    have HR3 := hid (Blk.new w2 #[.slice (some ⟨rb0, 0, none⟩) m m] 41)
    have HM3 := hid (Fn.alloc HM2.out (.cells #[.slice (some ⟨rb0, 0, none⟩) m m] 41))
    have HF3 := hid (HF2.out.alloc (.cells #[.slice (some ⟨rb0, 0, none⟩) m m] 41))
    have HL3 := hid (HL2.out.alloc HL2.out.size (.cells #[.slice (some ⟨rb0, 0, none⟩) m m] 41))
    obtain ⟨w3, hw3⟩ : ∃ w3, w3 = w2.alloc (.cells #[.slice (some ⟨rb0, 0, none⟩) m m] 41) := ⟨_, rfl⟩
    obtain ⟨r7, hr7⟩ : ∃ x, x = w2.heap.size := ⟨_, rfl⟩
    rw [← hw3] at HR3 HM3 HF3 HL3 ⊢
    have hr7w : w.heap.size ≤ r7 := by rw [hr7]; exact HL2.out.size
    have hbr7 : b < r7 := by rw [hr7]; exact hb2
    rw [← hr7] at HR3 ⊢
    clear hw3 hr7 hb2 HM1 HL1 HM2 HL2 HF2
    have hb0 : b ≠ 0 := by omega
    have m0 : (0 : Int) ≤ (m : Int) := Int.natCast_nonneg _
    have HRM3 := hid (show RM w3 (.agg #[.slice (some ⟨rb0, 0, none⟩) m m]) m (fun i => decide (i < 4)) from ⟨rb0, m, rfl, Nat.le_refl _, by omega, HF3.out.lt, fun i hi => HF3.out.cell hi⟩)
    go_wp2
    go_loopg [9] len (fun gk v9 wr => ∃ i X U rb rc, v9 = .int .i64 ((i : Nat) : Int) ∧ gk = len - i ∧ i ≤ len ∧ Hid (MapAt wr b m X) ∧ Hid (Tight m X) ∧ Hid (Lab X) ∧ Hid (Blk wr r7 #[.slice (some ⟨rb, 0, none⟩) m rc] 41) ∧ Hid (RM wr (.agg #[.slice (some ⟨rb, 0, none⟩) m rc]) m U) ∧ Hid (∀ i, i < m → U i = used X i) ∧ Hid (Below w.heap.size w wr))
    case atStart => exact ⟨0, labX 4, _, rb0, m, rfl, rfl, by omega, HM3, hid (tight_lab (by omega)), hid lab_lab, HR3, HRM3, hid (fun i _ => (used_lab 4 i).symm), HL3⟩
    case round =>
      obtain ⟨i, X, U, rb, rc, rfl, hgk, hi, HM, HG, HLB, HR, HRM, HUX0, HL⟩ := hrel
      clear HM3 HR3 HF3 HL3 HRM3
      by_cases hil : i < len ∧ i < 60
      · obtain ⟨hi1, hi2⟩ := hil
        obtain ⟨sb, so, K, N, A, q, kl, kc, kf, rfl, hsb, k0, k1, k2, hA, k3, hkl, hku⟩ := HS.out i hi1
        have d0 : wr.cell? ⟨sb, so + i * 4, none⟩ = some (.int .i64 K) := (HL.out.cell hsb).trans k0
        have d1 : wr.cell? ⟨sb, so + i * 4 + 1, none⟩ = some (.int .i64 N) := (HL.out.cell hsb).trans k1
        have d2 : wr.cell? ⟨sb, so + i * 4 + 2, none⟩ = some (.int .u32 (A : Int)) := (HL.out.cell hsb).trans k2
        have d3 : wr.cell? ⟨sb, so + i * 4 + 3, none⟩ = some (.slice q kl kc) := (HL.out.cell hsb).trans k3
        have hi1' : (i : Int) < len := by omega
        have hi2' : (i : Int) < 60 := by omega
        have hku' := hid hku
        clear k0 k1 k2 k3 hku
        have HAA := hid (Blk.new wr #[.int .i64 K, .int .i64 N, .int .u32 (A : Int), .slice q kl kc] 35)
        obtain ⟨wa, hwa⟩ : ∃ wa, wa = wr.alloc (.cells #[.int .i64 K, .int .i64 N, .int .u32 (A : Int), .slice q kl kc] 35) := ⟨_, rfl⟩
        obtain ⟨z10, hz10⟩ : ∃ x, x = wr.heap.size := ⟨_, rfl⟩
        have HAL := hid (show Below wr.heap.size wr wa by rw [hwa]; exact (Below.refl _ _).alloc (Nat.le_refl _) _)
        rw [← hwa, ← hz10] at HAA
        have hza := HAA.out.lt
        have hz10b : b < z10 := by rw [hz10]; exact Fn.lt HM.out
        have hz10r : r7 < z10 := by rw [hz10]; exact HR.out.lt
        have hz10w : w.heap.size ≤ z10 := by rw [hz10]; exact HL.out.size
        have HMa := hid (HM.out.below HAL.out (Fn.lt HM.out))
        have HRa := hid (HR.out.of_block (HAL.out.block _ HR.out.lt))
        have HRMa := hid (HRM.out.below HAL.out)
        have HLa := hid (show Below w.heap.size w wa from HL.out.trans (HAL.out.mono HL.out.size))
        go_upto_region 9 with fail
        rw [← hwa, ← hz10]
        clear hwa hz10 d0 d1 d2 d3
        go_upto_region 11 with first
          | (go_at_call 16; refine (bytes_c HMb.out).mono ?_; rintro e wc ⟨rfl, Fc, Lx⟩; have cv := conv_bts (cap := 64) (bts_of_fn Fc); have HLc := hid Lx; clear Fc Lx)
          | (go_at_call 10; refine (copy_c HMa.out).mono ?_; rintro e wb ⟨c, hcc, rfl, Mc, Lx⟩; have HCb := hid Mc; have HMb := hid (HMa.out.below Lx HMa.out.lt); have HLb := hid Lx; clear Mc Lx)
        have HLbc := hid (show Below wa.heap.size wa wc from HLb.out.trans (HLc.out.mono HLb.out.size))
        have HMc := hid (HMa.out.below HLbc.out HMa.out.lt)
        have HRc := hid (HRa.out.of_block (HLbc.out.block _ HRa.out.lt))
        have HRMc := hid (HRMa.out.below HLbc.out)
        have HAc := hid (HAA.out.of_block (HLbc.out.block _ HAA.out.lt))
        have HCc := hid (HCb.out.below HLc.out HCb.out.lt)
        have HLLc := hid (show Below w.heap.size w wc from HLa.out.trans (HLbc.out.mono HLa.out.size))
        clear cv HMa HRa HRMa HAA HCb HMb HLb HLc HLa HM HR HRM HL HAL HLbc
        have HLd := hid (show Below wc.heap.size wc ((wc.alloc (.cells #[] 33)).alloc (.cells #[] 33)) from ((Below.refl _ _).alloc (Nat.le_refl _) _).alloc (by simp) _)
        go_upto_region 13 with fail
        have S0 := hid (show St w wc b r7 z10 c m rb rc X X U #[.int .i64 K, .int .i64 N, .int .u32 (A : Int), .slice q kl kc] from ⟨HMc.out, HRc.out, HRMc.out, HAc.out, HCc.out, HLLc.out⟩)
        have SD := hid (S0.out.below HLd.out)
        obtain ⟨x13, hx13⟩ : ∃ x, x = wc.heap.size := ⟨_, rfl⟩
        generalize (wc.alloc (.cells #[] 33)).alloc (.cells #[] 33) = wd at SD ⊢
        rw [← hx13]
        clear hx13 S0 HLd HMc HRc HRMc HAc HCc HLLc
        have hbc : b < c := by have := hcc; omega
        have TD := hid (HT.out.below SD.out.L h0)
        have UD := hid (hku'.out.below SD.out.L)
        have e0 : wd.cell? ⟨z10, 0, none⟩ = some (.int .i64 K) := SD.out.A.cellv rfl
        have e1 : wd.cell? ⟨z10, 1, none⟩ = some (.int .i64 N) := SD.out.A.cellv rfl
        have e2 : wd.cell? ⟨z10, 2, none⟩ = some (.int .u32 (A : Int)) := SD.out.A.cellv rfl
        have e3 : wd.cell? ⟨z10, 3, none⟩ = some (.slice q kl kc) := SD.out.A.cellv rfl
        have cr := SD.out.R.cellv (i := 0) rfl
        have hm16 : 0 < m := by omega
        have hcr : c ≠ r7 := by omega
        have hsr : z10 ≠ r7 := by omega
        have hqb : ∀ x off, q = some ⟨x, off, none⟩ → 0 < kl → x ≠ b := fun x off e h => by
          obtain ⟨_, b', off', e', h1, _⟩ := hku'.out 0 h
          rw [e] at e'; cases e'; omega
        clear hz10w
        by_cases hK1 : K = 1
        · subst hK1
          by_cases hN : N < 0 ∨ 8 < N
          · skip
            have hl8 : (0 : Nat) ≤ 8 := by omega
            go_upto_region 24 with first
              | (go_at_call 12; refine (take_arg _ _ _ hN).mono ?_; rintro e w' ⟨rfl, rfl⟩)
              | (go_at_call 17; refine (rtake_arg SD.out.V _ hN).mono ?_; rintro e we ⟨rfl, Lx⟩; have SE := hid (SD.out.below Lx); have cre := SE.out.R.cellv (i := 0) rfl; have fre := SE.out.R.frozen 0; clear Lx)
            have S9 := hid (SE.out.set hm16 (SE.out.V) (by omega) hsr hcr hr7w)
            obtain ⟨w9, hw9⟩ : ∃ w9, w9 = we.setCell ⟨r7, 0, none⟩ (.slice (some ⟨rb, 0, none⟩) m rc) := ⟨_, rfl⟩
            rw [← hw9] at S9 ⊢
            clear hw9
            have HG9 := HG
            have HL9 := HLB
            have HUX := HUX0
            have hkx : ([] : List Nat).length = 0 := rfl
            have R13 := hid (Row32.nil w9 none)
            have R14 := hid (Row32.nil w9 none)
            clear e0 e1 e2 e3 cr cre fre hku' UD SD SE HG HLB HUX0 TD

            obtain ⟨u, hu1, hu2⟩ := used_both (b := b) hm2 HUX.out N
            have HU1 := hid hu1
            have HU2 := hid hu2
            clear hu1 hu2
            have hrefl := HRF.out
            refine region_rel (n := 158) (B := fun w' => Below w9.heap.size w9 w') (E := fun w w' => Below w.heap.size w w') (φ := (fun (kq : Nat) (v : Value) (w : World) => if kq = 29 then ∃ g : Nat, v = .slice (some ⟨g, 0, none⟩) 64 64 ∧ g < w.heap.size ∧ Bts w g 0 64 (bt X) else if kq = 32 then ∃ g : Nat, v = .slice (some ⟨g, 0, none⟩) 64 64 ∧ g < w.heap.size ∧ Bts w g 0 64 (rbt U m) else if kq = 44 then ∃ g : Nat, v = .slice (some ⟨g, 0, none⟩) 64 64 ∧ g < w.heap.size ∧ Bts w g 0 64 (bt X) else v = ([.int .i64 1, .int .i64 1, .bool false, .bool false, .slice none 0 0, .slice none 0 0, .bool true, .bool false, .bool false, .bool false, .pointer (some ⟨b, 0, none⟩), .pointer (some ⟨z10, 1, none⟩), .int .i64 N, .bool u, .agg #[.slice (some ⟨rb, 0, none⟩) m rc], .pointer (some ⟨z10, 1, none⟩), .int .i64 N, .bool u, .bool false, .bool false, .bool false, .pointer (some ⟨b, 0, none⟩), .int .i64 ((m : Int) - (cnt (used X) m : Nat)), .agg #[.slice (some ⟨rb, 0, none⟩) m rc], .int .i64 ((m : Int) - (cnt (used X) m : Nat)), .bool false, .bool false, .bool false, .pointer (some ⟨b, 0, none⟩), undef, .string (strOf (bt X) 64), .agg #[.slice (some ⟨rb, 0, none⟩) m rc], undef, .string (strOf (bt X) 64), .bool false, .bool false, .bool false, .pointer (some ⟨b, 0, none⟩), .int .i64 (m : Int), .int .i64 (m : Int), .bool false, .bool false, .bool false, .pointer (some ⟨c, 0, none⟩), undef, .string (strOf (bt X) 64), .string (strOf (bt X) 64), .bool false, .bool false] : List Value).getD kq undef)) (by kernel_rfl) (by kernel_rfl) (by kernel_rfl) (by kernel_rfl) ?mono hrefl ((Below.refl _ _).drew) ?hop ?hend
            case mono =>
              intro j v w w' h hE
              dsimp only at h
              split at h
              · rename_i hj
                subst hj
                obtain ⟨g, h1, h2, h3⟩ := h
                exact Eq.mpr (if_pos rfl) ⟨g, h1, Nat.lt_of_lt_of_le h2 hE.size, h3.below h2 hE⟩
              · rename_i hj
                rw [if_neg hj]
                split at h
                · rename_i hj
                  subst hj
                  obtain ⟨g, h1, h2, h3⟩ := h
                  exact Eq.mpr (if_pos rfl) ⟨g, h1, Nat.lt_of_lt_of_le h2 hE.size, h3.below h2 hE⟩
                · rename_i hj
                  rw [if_neg hj]
                  split at h
                  · rename_i hj
                    subst hj
                    obtain ⟨g, h1, h2, h3⟩ := h
                    exact Eq.mpr (if_pos rfl) ⟨g, h1, Nat.lt_of_lt_of_le h2 hE.size, h3.below h2 hE⟩
                  · rename_i hj
                    rw [if_neg hj]
                    exact h
            case hop =>
              refine And.intro ?_ ?_
              · intro V ρ w hB hc hf hd hs
                have s15 : ρ (.tmp 15) = .int .i64 1 := hs 15 (by kernel_rfl)
                clear hd hs
                rw [BigFrame.run_move (.tmp 15) rfl]
                exact ⟨s15, hB, hrefl w⟩
              refine And.intro ?_ ?_
              · intro V ρ w hB hc hf hd hs
                have s16 : ρ (.tmp 16) = .int .i64 1 := hs 16 (by kernel_rfl)
                clear hd hs
                rw [BigFrame.run_move (.tmp 16) rfl]
                exact ⟨s16, hB, hrefl w⟩
              refine And.intro ?_ ?_
              · intro V ρ w hB hc hf hd hs
                have s108 : ρ (.tmp 108) = .int .i64 1 := (hd 0 (by kernel_rfl) 108 (by kernel_rfl)).2.trans (hd 0 (by kernel_rfl) 108 (by kernel_rfl)).1
                have s109 : ρ (.tmp 109) = .int .i64 1 := (hd 1 (by kernel_rfl) 109 (by kernel_rfl)).2.trans (hd 1 (by kernel_rfl) 109 (by kernel_rfl)).1
                clear hd hs
                refine outcome_value (v := .bool false) ?_ ⟨rfl, hB, hrefl w⟩
                simp [go_sem, hc, hf, s108, s109]
              refine And.intro ?_ ?_
              · intro V ρ w hB hc hf hd hs
                have s110 : ρ (.tmp 110) = .bool false := (hd 2 (by kernel_rfl) 110 (by kernel_rfl)).2.trans (hd 2 (by kernel_rfl) 110 (by kernel_rfl)).1
                clear hd hs
                rw [BigFrame.run_move (.tmp 110) rfl]
                exact ⟨s110, hB, hrefl w⟩
              refine And.intro ?_ ?_
              · intro V ρ w hB hc hf hd hs
                have s13 : ρ (.tmp 13) = .slice none 0 0 := hs 13 (by kernel_rfl)
                refine Or.inl ⟨(hd 3 (by kernel_rfl) 111 (by kernel_rfl)).1, ?_⟩
                clear hd hs
                rw [BigFrame.run_move (.tmp 13) rfl]
                exact ⟨s13, hB, hrefl w⟩
              refine And.intro ?_ ?_
              · intro V ρ w hB hc hf hd hs
                have s14 : ρ (.tmp 14) = .slice none 0 0 := hs 14 (by kernel_rfl)
                refine Or.inl ⟨(hd 3 (by kernel_rfl) 111 (by kernel_rfl)).1, ?_⟩
                clear hd hs
                rw [BigFrame.run_move (.tmp 14) rfl]
                exact ⟨s14, hB, hrefl w⟩
              refine And.intro ?_ ?_
              · intro V ρ w hB hc hf hd hs
                have s112 : ρ (.tmp 112) = .slice none 0 0 := (hd 4 (by kernel_rfl) 112 (by kernel_rfl)).2.trans (hd 4 (by kernel_rfl) 112 (by kernel_rfl)).1
                have s113 : ρ (.tmp 113) = .slice none 0 0 := (hd 5 (by kernel_rfl) 113 (by kernel_rfl)).2.trans (hd 5 (by kernel_rfl) 113 (by kernel_rfl)).1
                refine Or.inl ⟨(hd 3 (by kernel_rfl) 111 (by kernel_rfl)).1, ?_⟩
                clear hd hs
                refine outcome_enter (w := w) (f := 21) (args := #[.slice none 0 0, .slice none 0 0]) (by simp [go_sem, hc, hf, s112, s113]) ?_
                refine (same_n hkx _ _ hl8 (R13.out.below hB) (R14.out.below hB)).mono ?_
                rintro e w' ⟨rfl, Lx⟩
                exact ⟨_, rfl, rfl, hB.trans (Lx.mono hB.size), Lx⟩
              refine And.intro ?_ ?_
              · intro V ρ w hB hc hf hd hs
                have s114 : ρ (.tmp 114) = .bool true := (hd 6 (by kernel_rfl) 114 (by kernel_rfl)).2.trans (hd 6 (by kernel_rfl) 114 (by kernel_rfl)).1
                refine Or.inl ⟨(hd 3 (by kernel_rfl) 111 (by kernel_rfl)).1, ?_⟩
                clear hd hs
                refine outcome_value (v := .bool false) ?_ ⟨rfl, hB, hrefl w⟩
                simp [go_sem, hc, hf, s114]
              refine And.intro ?_ ?_
              · intro V ρ w hB hc hf hd hs
                have s111 : ρ (.tmp 111) = .bool false := (hd 3 (by kernel_rfl) 111 (by kernel_rfl)).2.trans (hd 3 (by kernel_rfl) 111 (by kernel_rfl)).1
                have s115 : ρ (.tmp 115) = .bool false := (hd 7 (by kernel_rfl) 115 (by kernel_rfl)).2.trans (hd 7 (by kernel_rfl) 115 (by kernel_rfl)).1
                clear hd hs
                refine outcome_value (v := .bool false) ?_ ⟨rfl, hB, hrefl w⟩
                simp [go_sem, hc, hf, s111, s115]
              refine And.intro ?_ ?_
              · intro V ρ w hB hc hf hd hs
                have s116 : ρ (.tmp 116) = .bool false := (hd 8 (by kernel_rfl) 116 (by kernel_rfl)).2.trans (hd 8 (by kernel_rfl) 116 (by kernel_rfl)).1
                clear hd hs
                rw [BigFrame.run_move (.tmp 116) rfl]
                exact ⟨s116, hB, hrefl w⟩
              refine And.intro ?_ ?_
              · intro V ρ w hB hc hf hd hs
                have s5 : ρ (.tmp 5) = .pointer (some ⟨b, 0, none⟩) := hs 5 (by kernel_rfl)
                refine Or.inl ⟨(hd 9 (by kernel_rfl) 117 (by kernel_rfl)).1, ?_⟩
                clear hd hs
                rw [BigFrame.run_move (.tmp 5) rfl]
                exact ⟨s5, hB, hrefl w⟩
              refine And.intro ?_ ?_
              · intro V ρ w hB hc hf hd hs
                have s10 : ρ (.tmp 10) = .pointer (some ⟨z10, 0, none⟩) := hs 10 (by kernel_rfl)
                refine Or.inl ⟨(hd 9 (by kernel_rfl) 117 (by kernel_rfl)).1, ?_⟩
                clear hd hs
                refine outcome_value (v := .pointer (some ⟨z10, 1, none⟩)) ?_ ⟨rfl, hB, hrefl w⟩
                simp [go_sem, hc, hf, s10]
              refine And.intro ?_ ?_
              · intro V ρ w hB hc hf hd hs
                have s119 : ρ (.tmp 119) = .pointer (some ⟨z10, 1, none⟩) := (hd 11 (by kernel_rfl) 119 (by kernel_rfl)).2.trans (hd 11 (by kernel_rfl) 119 (by kernel_rfl)).1
                refine Or.inl ⟨(hd 9 (by kernel_rfl) 117 (by kernel_rfl)).1, ?_⟩
                clear hd hs
                have cn : w.cell? ⟨z10, 1, none⟩ = some (.int .i64 N) := (hB.cell S9.out.A.lt).trans (S9.out.A.cellv rfl)
                exact outcome_value (v := .int .i64 N) (by simp [go_sem, hc, hf, s119, cn]) ⟨rfl, hB, hrefl w⟩
              refine And.intro ?_ ?_
              · intro V ρ w hB hc hf hd hs
                have s118 : ρ (.tmp 118) = .pointer (some ⟨b, 0, none⟩) := (hd 10 (by kernel_rfl) 118 (by kernel_rfl)).2.trans (hd 10 (by kernel_rfl) 118 (by kernel_rfl)).1
                have s120 : ρ (.tmp 120) = .int .i64 N := (hd 12 (by kernel_rfl) 120 (by kernel_rfl)).2.trans (hd 12 (by kernel_rfl) 120 (by kernel_rfl)).1
                refine Or.inl ⟨(hd 9 (by kernel_rfl) 117 (by kernel_rfl)).1, ?_⟩
                clear hd hs
                refine outcome_enter (w := w) (f := 13) (args := #[.pointer (some ⟨b, 0, none⟩), .int .i64 N]) (by simp [go_sem, hc, hf, s118, s120]) ?_
                refine (HU1.out w (Fn.below S9.out.M hB (Fn.lt S9.out.M))).mono ?_
                rintro e w' ⟨rfl, rfl⟩
                exact ⟨_, rfl, rfl, hB, hrefl _⟩
              refine And.intro ?_ ?_
              · intro V ρ w hB hc hf hd hs
                have s7 : ρ (.tmp 7) = .pointer (some ⟨r7, 0, none⟩) := hs 7 (by kernel_rfl)
                refine Or.inl ⟨(hd 9 (by kernel_rfl) 117 (by kernel_rfl)).1, ?_⟩
                clear hd hs
                have cm : w.cell? ⟨r7, 0, none⟩ = some (.slice (some ⟨rb, 0, none⟩) m rc) := (hB.cell S9.out.R.lt).trans (S9.out.R.cellv rfl)
                exact outcome_value (v := .agg #[.slice (some ⟨rb, 0, none⟩) m rc]) (by simp [go_sem, hc, hf, s7, cm]) ⟨rfl, hB, hrefl w⟩
              refine And.intro ?_ ?_
              · intro V ρ w hB hc hf hd hs
                have s10 : ρ (.tmp 10) = .pointer (some ⟨z10, 0, none⟩) := hs 10 (by kernel_rfl)
                refine Or.inl ⟨(hd 9 (by kernel_rfl) 117 (by kernel_rfl)).1, ?_⟩
                clear hd hs
                refine outcome_value (v := .pointer (some ⟨z10, 1, none⟩)) ?_ ⟨rfl, hB, hrefl w⟩
                simp [go_sem, hc, hf, s10]
              refine And.intro ?_ ?_
              · intro V ρ w hB hc hf hd hs
                have s123 : ρ (.tmp 123) = .pointer (some ⟨z10, 1, none⟩) := (hd 15 (by kernel_rfl) 123 (by kernel_rfl)).2.trans (hd 15 (by kernel_rfl) 123 (by kernel_rfl)).1
                refine Or.inl ⟨(hd 9 (by kernel_rfl) 117 (by kernel_rfl)).1, ?_⟩
                clear hd hs
                have cn : w.cell? ⟨z10, 1, none⟩ = some (.int .i64 N) := (hB.cell S9.out.A.lt).trans (S9.out.A.cellv rfl)
                exact outcome_value (v := .int .i64 N) (by simp [go_sem, hc, hf, s123, cn]) ⟨rfl, hB, hrefl w⟩
              refine And.intro ?_ ?_
              · intro V ρ w hB hc hf hd hs
                have s122 : ρ (.tmp 122) = .agg #[.slice (some ⟨rb, 0, none⟩) m rc] := (hd 14 (by kernel_rfl) 122 (by kernel_rfl)).2.trans (hd 14 (by kernel_rfl) 122 (by kernel_rfl)).1
                have s124 : ρ (.tmp 124) = .int .i64 N := (hd 16 (by kernel_rfl) 124 (by kernel_rfl)).2.trans (hd 16 (by kernel_rfl) 124 (by kernel_rfl)).1
                refine Or.inl ⟨(hd 9 (by kernel_rfl) 117 (by kernel_rfl)).1, ?_⟩
                clear hd hs
                refine outcome_enter (w := w) (f := 22) (args := #[.agg #[.slice (some ⟨rb, 0, none⟩) m rc], .int .i64 N]) (by simp [go_sem, hc, hf, s122, s124]) ?_
                refine (HU2.out w _ (S9.out.V.below hB)).mono ?_
                rintro e w' ⟨rfl, Lx⟩
                exact ⟨_, rfl, rfl, hB.trans (Lx.mono hB.size), Lx⟩
              refine And.intro ?_ ?_
              · intro V ρ w hB hc hf hd hs
                have s121 : ρ (.tmp 121) = .bool u := (hd 13 (by kernel_rfl) 121 (by kernel_rfl)).2.trans (hd 13 (by kernel_rfl) 121 (by kernel_rfl)).1
                have s125 : ρ (.tmp 125) = .bool u := (hd 17 (by kernel_rfl) 125 (by kernel_rfl)).2.trans (hd 17 (by kernel_rfl) 125 (by kernel_rfl)).1
                refine Or.inl ⟨(hd 9 (by kernel_rfl) 117 (by kernel_rfl)).1, ?_⟩
                clear hd hs
                refine outcome_value (v := .bool false) ?_ ⟨rfl, hB, hrefl w⟩
                simp [go_sem, hc, hf, s121, s125]
              refine And.intro ?_ ?_
              · intro V ρ w hB hc hf hd hs
                have s117 : ρ (.tmp 117) = .bool false := (hd 9 (by kernel_rfl) 117 (by kernel_rfl)).2.trans (hd 9 (by kernel_rfl) 117 (by kernel_rfl)).1
                have s126 : ρ (.tmp 126) = .bool false := (hd 18 (by kernel_rfl) 126 (by kernel_rfl)).2.trans (hd 18 (by kernel_rfl) 126 (by kernel_rfl)).1
                clear hd hs
                refine outcome_value (v := .bool false) ?_ ⟨rfl, hB, hrefl w⟩
                simp [go_sem, hc, hf, s117, s126]
              refine And.intro ?_ ?_
              · intro V ρ w hB hc hf hd hs
                have s127 : ρ (.tmp 127) = .bool false := (hd 19 (by kernel_rfl) 127 (by kernel_rfl)).2.trans (hd 19 (by kernel_rfl) 127 (by kernel_rfl)).1
                clear hd hs
                rw [BigFrame.run_move (.tmp 127) rfl]
                exact ⟨s127, hB, hrefl w⟩
              refine And.intro ?_ ?_
              · intro V ρ w hB hc hf hd hs
                have s5 : ρ (.tmp 5) = .pointer (some ⟨b, 0, none⟩) := hs 5 (by kernel_rfl)
                refine Or.inl ⟨(hd 20 (by kernel_rfl) 128 (by kernel_rfl)).1, ?_⟩
                clear hd hs
                rw [BigFrame.run_move (.tmp 5) rfl]
                exact ⟨s5, hB, hrefl w⟩
              refine And.intro ?_ ?_
              · intro V ρ w hB hc hf hd hs
                have s129 : ρ (.tmp 129) = .pointer (some ⟨b, 0, none⟩) := (hd 21 (by kernel_rfl) 129 (by kernel_rfl)).2.trans (hd 21 (by kernel_rfl) 129 (by kernel_rfl)).1
                refine Or.inl ⟨(hd 20 (by kernel_rfl) 128 (by kernel_rfl)).1, ?_⟩
                clear hd hs
                refine outcome_enter (w := w) (f := 11) (args := #[.pointer (some ⟨b, 0, none⟩)]) (by simp [go_sem, hc, hf, s129]) ?_
                refine (free_c (Fn.below S9.out.M hB (Fn.lt S9.out.M)) hm2 HG9.out).mono ?_
                rintro e w' ⟨rfl, rfl⟩
                exact ⟨_, rfl, rfl, hB, hrefl _⟩
              refine And.intro ?_ ?_
              · intro V ρ w hB hc hf hd hs
                have s7 : ρ (.tmp 7) = .pointer (some ⟨r7, 0, none⟩) := hs 7 (by kernel_rfl)
                refine Or.inl ⟨(hd 20 (by kernel_rfl) 128 (by kernel_rfl)).1, ?_⟩
                clear hd hs
                have cm : w.cell? ⟨r7, 0, none⟩ = some (.slice (some ⟨rb, 0, none⟩) m rc) := (hB.cell S9.out.R.lt).trans (S9.out.R.cellv rfl)
                exact outcome_value (v := .agg #[.slice (some ⟨rb, 0, none⟩) m rc]) (by simp [go_sem, hc, hf, s7, cm]) ⟨rfl, hB, hrefl w⟩
              refine And.intro ?_ ?_
              · intro V ρ w hB hc hf hd hs
                have s131 : ρ (.tmp 131) = .agg #[.slice (some ⟨rb, 0, none⟩) m rc] := (hd 23 (by kernel_rfl) 131 (by kernel_rfl)).2.trans (hd 23 (by kernel_rfl) 131 (by kernel_rfl)).1
                refine Or.inl ⟨(hd 20 (by kernel_rfl) 128 (by kernel_rfl)).1, ?_⟩
                clear hd hs
                refine outcome_enter (w := w) (f := 23) (args := #[.agg #[.slice (some ⟨rb, 0, none⟩) m rc]]) (by simp [go_sem, hc, hf, s131]) ?_
                refine (rfree_c (S9.out.V.below hB) hm2).mono ?_
                rintro e w' ⟨rfl, Lx⟩
                exact ⟨_, rfl, by rw [cnt_congr HUX.out]; rfl, hB.trans (Lx.mono hB.size), Lx⟩
              refine And.intro ?_ ?_
              · intro V ρ w hB hc hf hd hs
                have s130 : ρ (.tmp 130) = .int .i64 ((m : Int) - (cnt (used X) m : Nat)) := (hd 22 (by kernel_rfl) 130 (by kernel_rfl)).2.trans (hd 22 (by kernel_rfl) 130 (by kernel_rfl)).1
                have s132 : ρ (.tmp 132) = .int .i64 ((m : Int) - (cnt (used X) m : Nat)) := (hd 24 (by kernel_rfl) 132 (by kernel_rfl)).2.trans (hd 24 (by kernel_rfl) 132 (by kernel_rfl)).1
                refine Or.inl ⟨(hd 20 (by kernel_rfl) 128 (by kernel_rfl)).1, ?_⟩
                clear hd hs
                refine outcome_value (v := .bool false) ?_ ⟨rfl, hB, hrefl w⟩
                simp [go_sem, hc, hf, s130, s132]
              refine And.intro ?_ ?_
              · intro V ρ w hB hc hf hd hs
                have s128 : ρ (.tmp 128) = .bool false := (hd 20 (by kernel_rfl) 128 (by kernel_rfl)).2.trans (hd 20 (by kernel_rfl) 128 (by kernel_rfl)).1
                have s133 : ρ (.tmp 133) = .bool false := (hd 25 (by kernel_rfl) 133 (by kernel_rfl)).2.trans (hd 25 (by kernel_rfl) 133 (by kernel_rfl)).1
                clear hd hs
                refine outcome_value (v := .bool false) ?_ ⟨rfl, hB, hrefl w⟩
                simp [go_sem, hc, hf, s128, s133]
              refine And.intro ?_ ?_
              · intro V ρ w hB hc hf hd hs
                have s134 : ρ (.tmp 134) = .bool false := (hd 26 (by kernel_rfl) 134 (by kernel_rfl)).2.trans (hd 26 (by kernel_rfl) 134 (by kernel_rfl)).1
                clear hd hs
                rw [BigFrame.run_move (.tmp 134) rfl]
                exact ⟨s134, hB, hrefl w⟩
              refine And.intro ?_ ?_
              · intro V ρ w hB hc hf hd hs
                have s5 : ρ (.tmp 5) = .pointer (some ⟨b, 0, none⟩) := hs 5 (by kernel_rfl)
                refine Or.inl ⟨(hd 27 (by kernel_rfl) 135 (by kernel_rfl)).1, ?_⟩
                clear hd hs
                rw [BigFrame.run_move (.tmp 5) rfl]
                exact ⟨s5, hB, hrefl w⟩
              refine And.intro ?_ ?_
              · intro V ρ w hB hc hf hd hs
                have s136 : ρ (.tmp 136) = .pointer (some ⟨b, 0, none⟩) := (hd 28 (by kernel_rfl) 136 (by kernel_rfl)).2.trans (hd 28 (by kernel_rfl) 136 (by kernel_rfl)).1
                refine Or.inl ⟨(hd 27 (by kernel_rfl) 135 (by kernel_rfl)).1, ?_⟩
                clear hd hs
                refine outcome_enter (w := w) (f := 16) (args := #[.pointer (some ⟨b, 0, none⟩)]) (by simp [go_sem, hc, hf, s136]) ?_
                refine (bytes_c (Fn.below S9.out.M hB (Fn.lt S9.out.M))).mono ?_
                rintro e w' ⟨rfl, F, Lx⟩
                exact ⟨_, rfl, Eq.mpr (if_pos rfl) ⟨_, rfl, F.lt, bts_of_fn F⟩, hB.trans (Lx.mono hB.size), Lx⟩
              refine And.intro ?_ ?_
              · intro V ρ w hB hc hf hd hs
                obtain ⟨f137, s137⟩ := hd 29 (by kernel_rfl) 137 (by kernel_rfl)
                refine Or.inl ⟨(hd 27 (by kernel_rfl) 135 (by kernel_rfl)).1, ?_⟩
                clear hd hs
                obtain ⟨g', hv, hg, hbt⟩ := (Eq.mp (if_pos rfl) f137)
                rw [hv] at s137
                exact outcome_value (v := .string (strOf (bt X) 64)) (run_conv rfl s137 (conv_bts hbt)) ⟨rfl, hB, hrefl w⟩
              refine And.intro ?_ ?_
              · intro V ρ w hB hc hf hd hs
                have s7 : ρ (.tmp 7) = .pointer (some ⟨r7, 0, none⟩) := hs 7 (by kernel_rfl)
                refine Or.inl ⟨(hd 27 (by kernel_rfl) 135 (by kernel_rfl)).1, ?_⟩
                clear hd hs
                have cm : w.cell? ⟨r7, 0, none⟩ = some (.slice (some ⟨rb, 0, none⟩) m rc) := (hB.cell S9.out.R.lt).trans (S9.out.R.cellv rfl)
                exact outcome_value (v := .agg #[.slice (some ⟨rb, 0, none⟩) m rc]) (by simp [go_sem, hc, hf, s7, cm]) ⟨rfl, hB, hrefl w⟩
              refine And.intro ?_ ?_
              · intro V ρ w hB hc hf hd hs
                have s139 : ρ (.tmp 139) = .agg #[.slice (some ⟨rb, 0, none⟩) m rc] := (hd 31 (by kernel_rfl) 139 (by kernel_rfl)).2.trans (hd 31 (by kernel_rfl) 139 (by kernel_rfl)).1
                refine Or.inl ⟨(hd 27 (by kernel_rfl) 135 (by kernel_rfl)).1, ?_⟩
                clear hd hs
                refine outcome_enter (w := w) (f := 24) (args := #[.agg #[.slice (some ⟨rb, 0, none⟩) m rc]]) (by simp [go_sem, hc, hf, s139]) ?_
                refine (rbytes_c (S9.out.V.below hB) hm2).mono ?_
                rintro e w' ⟨g9, rfl, F, Lx⟩
                exact ⟨_, rfl, Eq.mpr (if_neg (by decide)) (Eq.mpr (if_pos rfl) ⟨_, rfl, F.lt, bts_of_fn F⟩), hB.trans (Lx.mono hB.size), Lx⟩
              refine And.intro ?_ ?_
              · intro V ρ w hB hc hf hd hs
                obtain ⟨f140, s140⟩ := hd 32 (by kernel_rfl) 140 (by kernel_rfl)
                refine Or.inl ⟨(hd 27 (by kernel_rfl) 135 (by kernel_rfl)).1, ?_⟩
                clear hd hs
                obtain ⟨g', hv, hg, hbt⟩ := (Eq.mp (if_pos rfl) (Eq.mp (if_neg (by decide)) f140))
                rw [hv] at s140
                exact outcome_value (v := .string (strOf (bt X) 64)) (run_conv rfl s140 ((conv_bts hbt).trans (by rw [strOf_congr (n := 64) (fun j hj => rbt_bt HG9.out HUX.out j hj)]))) ⟨rfl, hB, hrefl w⟩
              refine And.intro ?_ ?_
              · intro V ρ w hB hc hf hd hs
                have s138 : ρ (.tmp 138) = .string (strOf (bt X) 64) := (hd 30 (by kernel_rfl) 138 (by kernel_rfl)).2.trans (hd 30 (by kernel_rfl) 138 (by kernel_rfl)).1
                have s141 : ρ (.tmp 141) = .string (strOf (bt X) 64) := (hd 33 (by kernel_rfl) 141 (by kernel_rfl)).2.trans (hd 33 (by kernel_rfl) 141 (by kernel_rfl)).1
                refine Or.inl ⟨(hd 27 (by kernel_rfl) 135 (by kernel_rfl)).1, ?_⟩
                clear hd hs
                refine outcome_value (v := .bool false) ?_ ⟨rfl, hB, hrefl w⟩
                simp [go_sem, hc, hf, s138, s141]
              refine And.intro ?_ ?_
              · intro V ρ w hB hc hf hd hs
                have s135 : ρ (.tmp 135) = .bool false := (hd 27 (by kernel_rfl) 135 (by kernel_rfl)).2.trans (hd 27 (by kernel_rfl) 135 (by kernel_rfl)).1
                have s142 : ρ (.tmp 142) = .bool false := (hd 34 (by kernel_rfl) 142 (by kernel_rfl)).2.trans (hd 34 (by kernel_rfl) 142 (by kernel_rfl)).1
                clear hd hs
                refine outcome_value (v := .bool false) ?_ ⟨rfl, hB, hrefl w⟩
                simp [go_sem, hc, hf, s135, s142]
              refine And.intro ?_ ?_
              · intro V ρ w hB hc hf hd hs
                have s143 : ρ (.tmp 143) = .bool false := (hd 35 (by kernel_rfl) 143 (by kernel_rfl)).2.trans (hd 35 (by kernel_rfl) 143 (by kernel_rfl)).1
                clear hd hs
                rw [BigFrame.run_move (.tmp 143) rfl]
                exact ⟨s143, hB, hrefl w⟩
              refine And.intro ?_ ?_
              · intro V ρ w hB hc hf hd hs
                have s5 : ρ (.tmp 5) = .pointer (some ⟨b, 0, none⟩) := hs 5 (by kernel_rfl)
                refine Or.inl ⟨(hd 36 (by kernel_rfl) 144 (by kernel_rfl)).1, ?_⟩
                clear hd hs
                rw [BigFrame.run_move (.tmp 5) rfl]
                exact ⟨s5, hB, hrefl w⟩
              refine And.intro ?_ ?_
              · intro V ρ w hB hc hf hd hs
                have s145 : ρ (.tmp 145) = .pointer (some ⟨b, 0, none⟩) := (hd 37 (by kernel_rfl) 145 (by kernel_rfl)).2.trans (hd 37 (by kernel_rfl) 145 (by kernel_rfl)).1
                refine Or.inl ⟨(hd 36 (by kernel_rfl) 144 (by kernel_rfl)).1, ?_⟩
                clear hd hs
                refine outcome_enter (w := w) (f := 25) (args := #[.pointer (some ⟨b, 0, none⟩)]) (by simp [go_sem, hc, hf, s145]) ?_
                refine (len_c (Fn.below S9.out.M hB (Fn.lt S9.out.M))).mono ?_
                rintro e w' ⟨rfl, rfl⟩
                exact ⟨_, rfl, rfl, hB, hrefl _⟩
              refine And.intro ?_ ?_
              · intro V ρ w hB hc hf hd hs
                have s0 : ρ (.tmp 0) = .int .i64 (m : Int) := hs 0 (by kernel_rfl)
                refine Or.inl ⟨(hd 36 (by kernel_rfl) 144 (by kernel_rfl)).1, ?_⟩
                clear hd hs
                rw [BigFrame.run_move (.tmp 0) rfl]
                exact ⟨s0, hB, hrefl w⟩
              refine And.intro ?_ ?_
              · intro V ρ w hB hc hf hd hs
                have s146 : ρ (.tmp 146) = .int .i64 (m : Int) := (hd 38 (by kernel_rfl) 146 (by kernel_rfl)).2.trans (hd 38 (by kernel_rfl) 146 (by kernel_rfl)).1
                have s147 : ρ (.tmp 147) = .int .i64 (m : Int) := (hd 39 (by kernel_rfl) 147 (by kernel_rfl)).2.trans (hd 39 (by kernel_rfl) 147 (by kernel_rfl)).1
                refine Or.inl ⟨(hd 36 (by kernel_rfl) 144 (by kernel_rfl)).1, ?_⟩
                clear hd hs
                refine outcome_value (v := .bool false) ?_ ⟨rfl, hB, hrefl w⟩
                simp [go_sem, hc, hf, s146, s147]
              refine And.intro ?_ ?_
              · intro V ρ w hB hc hf hd hs
                have s144 : ρ (.tmp 144) = .bool false := (hd 36 (by kernel_rfl) 144 (by kernel_rfl)).2.trans (hd 36 (by kernel_rfl) 144 (by kernel_rfl)).1
                have s148 : ρ (.tmp 148) = .bool false := (hd 40 (by kernel_rfl) 148 (by kernel_rfl)).2.trans (hd 40 (by kernel_rfl) 148 (by kernel_rfl)).1
                clear hd hs
                refine outcome_value (v := .bool false) ?_ ⟨rfl, hB, hrefl w⟩
                simp [go_sem, hc, hf, s144, s148]
              refine And.intro ?_ ?_
              · intro V ρ w hB hc hf hd hs
                have s149 : ρ (.tmp 149) = .bool false := (hd 41 (by kernel_rfl) 149 (by kernel_rfl)).2.trans (hd 41 (by kernel_rfl) 149 (by kernel_rfl)).1
                clear hd hs
                rw [BigFrame.run_move (.tmp 149) rfl]
                exact ⟨s149, hB, hrefl w⟩
              refine And.intro ?_ ?_
              · intro V ρ w hB hc hf hd hs
                have s11 : ρ (.tmp 11) = .pointer (some ⟨c, 0, none⟩) := hs 11 (by kernel_rfl)
                refine Or.inl ⟨(hd 42 (by kernel_rfl) 150 (by kernel_rfl)).1, ?_⟩
                clear hd hs
                rw [BigFrame.run_move (.tmp 11) rfl]
                exact ⟨s11, hB, hrefl w⟩
              refine And.intro ?_ ?_
              · intro V ρ w hB hc hf hd hs
                have s151 : ρ (.tmp 151) = .pointer (some ⟨c, 0, none⟩) := (hd 43 (by kernel_rfl) 151 (by kernel_rfl)).2.trans (hd 43 (by kernel_rfl) 151 (by kernel_rfl)).1
                refine Or.inl ⟨(hd 42 (by kernel_rfl) 150 (by kernel_rfl)).1, ?_⟩
                clear hd hs
                refine outcome_enter (w := w) (f := 16) (args := #[.pointer (some ⟨c, 0, none⟩)]) (by simp [go_sem, hc, hf, s151]) ?_
                refine (bytes_c (Fn.below S9.out.C hB (Fn.lt S9.out.C))).mono ?_
                rintro e w' ⟨rfl, F, Lx⟩
                exact ⟨_, rfl, Eq.mpr (if_neg (by decide)) (Eq.mpr (if_neg (by decide)) (Eq.mpr (if_pos rfl) ⟨_, rfl, F.lt, bts_of_fn F⟩)), hB.trans (Lx.mono hB.size), Lx⟩
              refine And.intro ?_ ?_
              · intro V ρ w hB hc hf hd hs
                obtain ⟨f152, s152⟩ := hd 44 (by kernel_rfl) 152 (by kernel_rfl)
                refine Or.inl ⟨(hd 42 (by kernel_rfl) 150 (by kernel_rfl)).1, ?_⟩
                clear hd hs
                obtain ⟨g', hv, hg, hbt⟩ := (Eq.mp (if_pos rfl) (Eq.mp (if_neg (by decide)) (Eq.mp (if_neg (by decide)) f152)))
                rw [hv] at s152
                exact outcome_value (v := .string (strOf (bt X) 64)) (run_conv rfl s152 (conv_bts hbt)) ⟨rfl, hB, hrefl w⟩
              refine And.intro ?_ ?_
              · intro V ρ w hB hc hf hd hs
                have s12 : ρ (.tmp 12) = .string (strOf (bt X) 64) := hs 12 (by kernel_rfl)
                refine Or.inl ⟨(hd 42 (by kernel_rfl) 150 (by kernel_rfl)).1, ?_⟩
                clear hd hs
                rw [BigFrame.run_move (.tmp 12) rfl]
                exact ⟨s12, hB, hrefl w⟩
              refine And.intro ?_ ?_
              · intro V ρ w hB hc hf hd hs
                have s153 : ρ (.tmp 153) = .string (strOf (bt X) 64) := (hd 45 (by kernel_rfl) 153 (by kernel_rfl)).2.trans (hd 45 (by kernel_rfl) 153 (by kernel_rfl)).1
                have s154 : ρ (.tmp 154) = .string (strOf (bt X) 64) := (hd 46 (by kernel_rfl) 154 (by kernel_rfl)).2.trans (hd 46 (by kernel_rfl) 154 (by kernel_rfl)).1
                refine Or.inl ⟨(hd 42 (by kernel_rfl) 150 (by kernel_rfl)).1, ?_⟩
                clear hd hs
                refine outcome_value (v := .bool false) ?_ ⟨rfl, hB, hrefl w⟩
                simp [go_sem, hc, hf, s153, s154]
              refine And.intro ?_ ?_
              · intro V ρ w hB hc hf hd hs
                have s150 : ρ (.tmp 150) = .bool false := (hd 42 (by kernel_rfl) 150 (by kernel_rfl)).2.trans (hd 42 (by kernel_rfl) 150 (by kernel_rfl)).1
                have s155 : ρ (.tmp 155) = .bool false := (hd 47 (by kernel_rfl) 155 (by kernel_rfl)).2.trans (hd 47 (by kernel_rfl) 155 (by kernel_rfl)).1
                clear hd hs
                refine outcome_value (v := .bool false) ?_ ⟨rfl, hB, hrefl w⟩
                simp [go_sem, hc, hf, s150, s155]
              exact trivial
            case hend =>
              intro V w10 hB10 hV
              have vl : V 48 = .bool false := hV 48 (by decide)
              simp only [lexF, Act.put, List.setIfInBounds_toArray, List.set_cons_zero, List.set_cons_succ, vl]
              clear hV
              go_wp2
              go_roundg (len - (i + 1))
              case measure => omega
              case rel => exact ⟨i + 1, X, U, rb, rc, by go_num, rfl, by omega, hid (Fn.below S9.out.M hB10 (Fn.lt S9.out.M)), HG9, HL9, hid (S9.out.R.of_block (hB10.block _ S9.out.R.lt)), hid (S9.out.V.below hB10), HUX, hid (S9.out.L.trans (hB10.mono S9.out.L.size))⟩
          · obtain ⟨k, rfl⟩ : ∃ k : Nat, N = k := ⟨N.toNat, by omega⟩
            have hk8 : k ≤ 8 := by omega
            clear hN
            by_cases hful : (frees (used X) m).length < k
            · skip
              have hl8 : (0 : Nat) ≤ 8 := by omega
              have hfe : frees U m = frees (used X) m := frees_same HUX0.out
              have hful' : (frees U m).length < k := by rw [hfe]; exact hful
              have HFU := hid hful
              have HFU' := hid hful'
              clear hful hful' hfe
              go_upto_region 24 with first
                | (go_at_call 12; refine (take_full SD.out.M hm2 HG.out k hk8 HFU.out).mono ?_; rintro e w' ⟨rfl, rfl⟩)
                | (go_at_call 17; refine (rtake_full SD.out.V hm2 k hk8 HFU'.out).mono ?_; rintro e we ⟨rfl, Lx⟩; have SE := hid (SD.out.below Lx); have cre := SE.out.R.cellv (i := 0) rfl; have fre := SE.out.R.frozen 0; clear Lx)
              have S9 := hid (SE.out.set hm16 (SE.out.V) (by omega) hsr hcr hr7w)
              obtain ⟨w9, hw9⟩ : ∃ w9, w9 = we.setCell ⟨r7, 0, none⟩ (.slice (some ⟨rb, 0, none⟩) m rc) := ⟨_, rfl⟩
              rw [← hw9] at S9 ⊢
              clear hw9
              have HG9 := HG
              have HL9 := HLB
              have HUX := HUX0
              have hkx : ([] : List Nat).length = 0 := rfl
              have R13 := hid (Row32.nil w9 none)
              have R14 := hid (Row32.nil w9 none)
              clear e0 e1 e2 e3 cr cre fre hku' UD SD SE HG HLB HUX0 TD

              obtain ⟨u, hu1, hu2⟩ := used_both (b := b) hm2 HUX.out (k : Int)
              have HU1 := hid hu1
              have HU2 := hid hu2
              clear hu1 hu2
              have hrefl := HRF.out
              refine region_rel (n := 158) (B := fun w' => Below w9.heap.size w9 w') (E := fun w w' => Below w.heap.size w w') (φ := (fun (kq : Nat) (v : Value) (w : World) => if kq = 29 then ∃ g : Nat, v = .slice (some ⟨g, 0, none⟩) 64 64 ∧ g < w.heap.size ∧ Bts w g 0 64 (bt X) else if kq = 32 then ∃ g : Nat, v = .slice (some ⟨g, 0, none⟩) 64 64 ∧ g < w.heap.size ∧ Bts w g 0 64 (rbt U m) else if kq = 44 then ∃ g : Nat, v = .slice (some ⟨g, 0, none⟩) 64 64 ∧ g < w.heap.size ∧ Bts w g 0 64 (bt X) else v = ([.int .i64 7, .int .i64 7, .bool false, .bool false, .slice none 0 0, .slice none 0 0, .bool true, .bool false, .bool false, .bool false, .pointer (some ⟨b, 0, none⟩), .pointer (some ⟨z10, 1, none⟩), .int .i64 (k : Int), .bool u, .agg #[.slice (some ⟨rb, 0, none⟩) m rc], .pointer (some ⟨z10, 1, none⟩), .int .i64 (k : Int), .bool u, .bool false, .bool false, .bool false, .pointer (some ⟨b, 0, none⟩), .int .i64 ((m : Int) - (cnt (used X) m : Nat)), .agg #[.slice (some ⟨rb, 0, none⟩) m rc], .int .i64 ((m : Int) - (cnt (used X) m : Nat)), .bool false, .bool false, .bool false, .pointer (some ⟨b, 0, none⟩), undef, .string (strOf (bt X) 64), .agg #[.slice (some ⟨rb, 0, none⟩) m rc], undef, .string (strOf (bt X) 64), .bool false, .bool false, .bool false, .pointer (some ⟨b, 0, none⟩), .int .i64 (m : Int), .int .i64 (m : Int), .bool false, .bool false, .bool false, .pointer (some ⟨c, 0, none⟩), undef, .string (strOf (bt X) 64), .string (strOf (bt X) 64), .bool false, .bool false] : List Value).getD kq undef)) (by kernel_rfl) (by kernel_rfl) (by kernel_rfl) (by kernel_rfl) ?mono hrefl ((Below.refl _ _).drew) ?hop ?hend
              case mono =>
                intro j v w w' h hE
                dsimp only at h
                split at h
                · rename_i hj
                  subst hj
                  obtain ⟨g, h1, h2, h3⟩ := h
                  exact Eq.mpr (if_pos rfl) ⟨g, h1, Nat.lt_of_lt_of_le h2 hE.size, h3.below h2 hE⟩
                · rename_i hj
                  rw [if_neg hj]
                  split at h
                  · rename_i hj
                    subst hj
                    obtain ⟨g, h1, h2, h3⟩ := h
                    exact Eq.mpr (if_pos rfl) ⟨g, h1, Nat.lt_of_lt_of_le h2 hE.size, h3.below h2 hE⟩
                  · rename_i hj
                    rw [if_neg hj]
                    split at h
                    · rename_i hj
                      subst hj
                      obtain ⟨g, h1, h2, h3⟩ := h
                      exact Eq.mpr (if_pos rfl) ⟨g, h1, Nat.lt_of_lt_of_le h2 hE.size, h3.below h2 hE⟩
                    · rename_i hj
                      rw [if_neg hj]
                      exact h
              case hop =>
                refine And.intro ?_ ?_
                · intro V ρ w hB hc hf hd hs
                  have s15 : ρ (.tmp 15) = .int .i64 7 := hs 15 (by kernel_rfl)
                  clear hd hs
                  rw [BigFrame.run_move (.tmp 15) rfl]
                  exact ⟨s15, hB, hrefl w⟩
                refine And.intro ?_ ?_
                · intro V ρ w hB hc hf hd hs
                  have s16 : ρ (.tmp 16) = .int .i64 7 := hs 16 (by kernel_rfl)
                  clear hd hs
                  rw [BigFrame.run_move (.tmp 16) rfl]
                  exact ⟨s16, hB, hrefl w⟩
                refine And.intro ?_ ?_
                · intro V ρ w hB hc hf hd hs
                  have s108 : ρ (.tmp 108) = .int .i64 7 := (hd 0 (by kernel_rfl) 108 (by kernel_rfl)).2.trans (hd 0 (by kernel_rfl) 108 (by kernel_rfl)).1
                  have s109 : ρ (.tmp 109) = .int .i64 7 := (hd 1 (by kernel_rfl) 109 (by kernel_rfl)).2.trans (hd 1 (by kernel_rfl) 109 (by kernel_rfl)).1
                  clear hd hs
                  refine outcome_value (v := .bool false) ?_ ⟨rfl, hB, hrefl w⟩
                  simp [go_sem, hc, hf, s108, s109]
                refine And.intro ?_ ?_
                · intro V ρ w hB hc hf hd hs
                  have s110 : ρ (.tmp 110) = .bool false := (hd 2 (by kernel_rfl) 110 (by kernel_rfl)).2.trans (hd 2 (by kernel_rfl) 110 (by kernel_rfl)).1
                  clear hd hs
                  rw [BigFrame.run_move (.tmp 110) rfl]
                  exact ⟨s110, hB, hrefl w⟩
                refine And.intro ?_ ?_
                · intro V ρ w hB hc hf hd hs
                  have s13 : ρ (.tmp 13) = .slice none 0 0 := hs 13 (by kernel_rfl)
                  refine Or.inl ⟨(hd 3 (by kernel_rfl) 111 (by kernel_rfl)).1, ?_⟩
                  clear hd hs
                  rw [BigFrame.run_move (.tmp 13) rfl]
                  exact ⟨s13, hB, hrefl w⟩
                refine And.intro ?_ ?_
                · intro V ρ w hB hc hf hd hs
                  have s14 : ρ (.tmp 14) = .slice none 0 0 := hs 14 (by kernel_rfl)
                  refine Or.inl ⟨(hd 3 (by kernel_rfl) 111 (by kernel_rfl)).1, ?_⟩
                  clear hd hs
                  rw [BigFrame.run_move (.tmp 14) rfl]
                  exact ⟨s14, hB, hrefl w⟩
                refine And.intro ?_ ?_
                · intro V ρ w hB hc hf hd hs
                  have s112 : ρ (.tmp 112) = .slice none 0 0 := (hd 4 (by kernel_rfl) 112 (by kernel_rfl)).2.trans (hd 4 (by kernel_rfl) 112 (by kernel_rfl)).1
                  have s113 : ρ (.tmp 113) = .slice none 0 0 := (hd 5 (by kernel_rfl) 113 (by kernel_rfl)).2.trans (hd 5 (by kernel_rfl) 113 (by kernel_rfl)).1
                  refine Or.inl ⟨(hd 3 (by kernel_rfl) 111 (by kernel_rfl)).1, ?_⟩
                  clear hd hs
                  refine outcome_enter (w := w) (f := 21) (args := #[.slice none 0 0, .slice none 0 0]) (by simp [go_sem, hc, hf, s112, s113]) ?_
                  refine (same_n hkx _ _ hl8 (R13.out.below hB) (R14.out.below hB)).mono ?_
                  rintro e w' ⟨rfl, Lx⟩
                  exact ⟨_, rfl, rfl, hB.trans (Lx.mono hB.size), Lx⟩
                refine And.intro ?_ ?_
                · intro V ρ w hB hc hf hd hs
                  have s114 : ρ (.tmp 114) = .bool true := (hd 6 (by kernel_rfl) 114 (by kernel_rfl)).2.trans (hd 6 (by kernel_rfl) 114 (by kernel_rfl)).1
                  refine Or.inl ⟨(hd 3 (by kernel_rfl) 111 (by kernel_rfl)).1, ?_⟩
                  clear hd hs
                  refine outcome_value (v := .bool false) ?_ ⟨rfl, hB, hrefl w⟩
                  simp [go_sem, hc, hf, s114]
                refine And.intro ?_ ?_
                · intro V ρ w hB hc hf hd hs
                  have s111 : ρ (.tmp 111) = .bool false := (hd 3 (by kernel_rfl) 111 (by kernel_rfl)).2.trans (hd 3 (by kernel_rfl) 111 (by kernel_rfl)).1
                  have s115 : ρ (.tmp 115) = .bool false := (hd 7 (by kernel_rfl) 115 (by kernel_rfl)).2.trans (hd 7 (by kernel_rfl) 115 (by kernel_rfl)).1
                  clear hd hs
                  refine outcome_value (v := .bool false) ?_ ⟨rfl, hB, hrefl w⟩
                  simp [go_sem, hc, hf, s111, s115]
                refine And.intro ?_ ?_
                · intro V ρ w hB hc hf hd hs
                  have s116 : ρ (.tmp 116) = .bool false := (hd 8 (by kernel_rfl) 116 (by kernel_rfl)).2.trans (hd 8 (by kernel_rfl) 116 (by kernel_rfl)).1
                  clear hd hs
                  rw [BigFrame.run_move (.tmp 116) rfl]
                  exact ⟨s116, hB, hrefl w⟩
                refine And.intro ?_ ?_
                · intro V ρ w hB hc hf hd hs
                  have s5 : ρ (.tmp 5) = .pointer (some ⟨b, 0, none⟩) := hs 5 (by kernel_rfl)
                  refine Or.inl ⟨(hd 9 (by kernel_rfl) 117 (by kernel_rfl)).1, ?_⟩
                  clear hd hs
                  rw [BigFrame.run_move (.tmp 5) rfl]
                  exact ⟨s5, hB, hrefl w⟩
                refine And.intro ?_ ?_
                · intro V ρ w hB hc hf hd hs
                  have s10 : ρ (.tmp 10) = .pointer (some ⟨z10, 0, none⟩) := hs 10 (by kernel_rfl)
                  refine Or.inl ⟨(hd 9 (by kernel_rfl) 117 (by kernel_rfl)).1, ?_⟩
                  clear hd hs
                  refine outcome_value (v := .pointer (some ⟨z10, 1, none⟩)) ?_ ⟨rfl, hB, hrefl w⟩
                  simp [go_sem, hc, hf, s10]
                refine And.intro ?_ ?_
                · intro V ρ w hB hc hf hd hs
                  have s119 : ρ (.tmp 119) = .pointer (some ⟨z10, 1, none⟩) := (hd 11 (by kernel_rfl) 119 (by kernel_rfl)).2.trans (hd 11 (by kernel_rfl) 119 (by kernel_rfl)).1
                  refine Or.inl ⟨(hd 9 (by kernel_rfl) 117 (by kernel_rfl)).1, ?_⟩
                  clear hd hs
                  have cn : w.cell? ⟨z10, 1, none⟩ = some (.int .i64 (k : Int)) := (hB.cell S9.out.A.lt).trans (S9.out.A.cellv rfl)
                  exact outcome_value (v := .int .i64 (k : Int)) (by simp [go_sem, hc, hf, s119, cn]) ⟨rfl, hB, hrefl w⟩
                refine And.intro ?_ ?_
                · intro V ρ w hB hc hf hd hs
                  have s118 : ρ (.tmp 118) = .pointer (some ⟨b, 0, none⟩) := (hd 10 (by kernel_rfl) 118 (by kernel_rfl)).2.trans (hd 10 (by kernel_rfl) 118 (by kernel_rfl)).1
                  have s120 : ρ (.tmp 120) = .int .i64 (k : Int) := (hd 12 (by kernel_rfl) 120 (by kernel_rfl)).2.trans (hd 12 (by kernel_rfl) 120 (by kernel_rfl)).1
                  refine Or.inl ⟨(hd 9 (by kernel_rfl) 117 (by kernel_rfl)).1, ?_⟩
                  clear hd hs
                  refine outcome_enter (w := w) (f := 13) (args := #[.pointer (some ⟨b, 0, none⟩), .int .i64 (k : Int)]) (by simp [go_sem, hc, hf, s118, s120]) ?_
                  refine (HU1.out w (Fn.below S9.out.M hB (Fn.lt S9.out.M))).mono ?_
                  rintro e w' ⟨rfl, rfl⟩
                  exact ⟨_, rfl, rfl, hB, hrefl _⟩
                refine And.intro ?_ ?_
                · intro V ρ w hB hc hf hd hs
                  have s7 : ρ (.tmp 7) = .pointer (some ⟨r7, 0, none⟩) := hs 7 (by kernel_rfl)
                  refine Or.inl ⟨(hd 9 (by kernel_rfl) 117 (by kernel_rfl)).1, ?_⟩
                  clear hd hs
                  have cm : w.cell? ⟨r7, 0, none⟩ = some (.slice (some ⟨rb, 0, none⟩) m rc) := (hB.cell S9.out.R.lt).trans (S9.out.R.cellv rfl)
                  exact outcome_value (v := .agg #[.slice (some ⟨rb, 0, none⟩) m rc]) (by simp [go_sem, hc, hf, s7, cm]) ⟨rfl, hB, hrefl w⟩
                refine And.intro ?_ ?_
                · intro V ρ w hB hc hf hd hs
                  have s10 : ρ (.tmp 10) = .pointer (some ⟨z10, 0, none⟩) := hs 10 (by kernel_rfl)
                  refine Or.inl ⟨(hd 9 (by kernel_rfl) 117 (by kernel_rfl)).1, ?_⟩
                  clear hd hs
                  refine outcome_value (v := .pointer (some ⟨z10, 1, none⟩)) ?_ ⟨rfl, hB, hrefl w⟩
                  simp [go_sem, hc, hf, s10]
                refine And.intro ?_ ?_
                · intro V ρ w hB hc hf hd hs
                  have s123 : ρ (.tmp 123) = .pointer (some ⟨z10, 1, none⟩) := (hd 15 (by kernel_rfl) 123 (by kernel_rfl)).2.trans (hd 15 (by kernel_rfl) 123 (by kernel_rfl)).1
                  refine Or.inl ⟨(hd 9 (by kernel_rfl) 117 (by kernel_rfl)).1, ?_⟩
                  clear hd hs
                  have cn : w.cell? ⟨z10, 1, none⟩ = some (.int .i64 (k : Int)) := (hB.cell S9.out.A.lt).trans (S9.out.A.cellv rfl)
                  exact outcome_value (v := .int .i64 (k : Int)) (by simp [go_sem, hc, hf, s123, cn]) ⟨rfl, hB, hrefl w⟩
                refine And.intro ?_ ?_
                · intro V ρ w hB hc hf hd hs
                  have s122 : ρ (.tmp 122) = .agg #[.slice (some ⟨rb, 0, none⟩) m rc] := (hd 14 (by kernel_rfl) 122 (by kernel_rfl)).2.trans (hd 14 (by kernel_rfl) 122 (by kernel_rfl)).1
                  have s124 : ρ (.tmp 124) = .int .i64 (k : Int) := (hd 16 (by kernel_rfl) 124 (by kernel_rfl)).2.trans (hd 16 (by kernel_rfl) 124 (by kernel_rfl)).1
                  refine Or.inl ⟨(hd 9 (by kernel_rfl) 117 (by kernel_rfl)).1, ?_⟩
                  clear hd hs
                  refine outcome_enter (w := w) (f := 22) (args := #[.agg #[.slice (some ⟨rb, 0, none⟩) m rc], .int .i64 (k : Int)]) (by simp [go_sem, hc, hf, s122, s124]) ?_
                  refine (HU2.out w _ (S9.out.V.below hB)).mono ?_
                  rintro e w' ⟨rfl, Lx⟩
                  exact ⟨_, rfl, rfl, hB.trans (Lx.mono hB.size), Lx⟩
                refine And.intro ?_ ?_
                · intro V ρ w hB hc hf hd hs
                  have s121 : ρ (.tmp 121) = .bool u := (hd 13 (by kernel_rfl) 121 (by kernel_rfl)).2.trans (hd 13 (by kernel_rfl) 121 (by kernel_rfl)).1
                  have s125 : ρ (.tmp 125) = .bool u := (hd 17 (by kernel_rfl) 125 (by kernel_rfl)).2.trans (hd 17 (by kernel_rfl) 125 (by kernel_rfl)).1
                  refine Or.inl ⟨(hd 9 (by kernel_rfl) 117 (by kernel_rfl)).1, ?_⟩
                  clear hd hs
                  refine outcome_value (v := .bool false) ?_ ⟨rfl, hB, hrefl w⟩
                  simp [go_sem, hc, hf, s121, s125]
                refine And.intro ?_ ?_
                · intro V ρ w hB hc hf hd hs
                  have s117 : ρ (.tmp 117) = .bool false := (hd 9 (by kernel_rfl) 117 (by kernel_rfl)).2.trans (hd 9 (by kernel_rfl) 117 (by kernel_rfl)).1
                  have s126 : ρ (.tmp 126) = .bool false := (hd 18 (by kernel_rfl) 126 (by kernel_rfl)).2.trans (hd 18 (by kernel_rfl) 126 (by kernel_rfl)).1
                  clear hd hs
                  refine outcome_value (v := .bool false) ?_ ⟨rfl, hB, hrefl w⟩
                  simp [go_sem, hc, hf, s117, s126]
                refine And.intro ?_ ?_
                · intro V ρ w hB hc hf hd hs
                  have s127 : ρ (.tmp 127) = .bool false := (hd 19 (by kernel_rfl) 127 (by kernel_rfl)).2.trans (hd 19 (by kernel_rfl) 127 (by kernel_rfl)).1
                  clear hd hs
                  rw [BigFrame.run_move (.tmp 127) rfl]
                  exact ⟨s127, hB, hrefl w⟩
                refine And.intro ?_ ?_
                · intro V ρ w hB hc hf hd hs
                  have s5 : ρ (.tmp 5) = .pointer (some ⟨b, 0, none⟩) := hs 5 (by kernel_rfl)
                  refine Or.inl ⟨(hd 20 (by kernel_rfl) 128 (by kernel_rfl)).1, ?_⟩
                  clear hd hs
                  rw [BigFrame.run_move (.tmp 5) rfl]
                  exact ⟨s5, hB, hrefl w⟩
                refine And.intro ?_ ?_
                · intro V ρ w hB hc hf hd hs
                  have s129 : ρ (.tmp 129) = .pointer (some ⟨b, 0, none⟩) := (hd 21 (by kernel_rfl) 129 (by kernel_rfl)).2.trans (hd 21 (by kernel_rfl) 129 (by kernel_rfl)).1
                  refine Or.inl ⟨(hd 20 (by kernel_rfl) 128 (by kernel_rfl)).1, ?_⟩
                  clear hd hs
                  refine outcome_enter (w := w) (f := 11) (args := #[.pointer (some ⟨b, 0, none⟩)]) (by simp [go_sem, hc, hf, s129]) ?_
                  refine (free_c (Fn.below S9.out.M hB (Fn.lt S9.out.M)) hm2 HG9.out).mono ?_
                  rintro e w' ⟨rfl, rfl⟩
                  exact ⟨_, rfl, rfl, hB, hrefl _⟩
                refine And.intro ?_ ?_
                · intro V ρ w hB hc hf hd hs
                  have s7 : ρ (.tmp 7) = .pointer (some ⟨r7, 0, none⟩) := hs 7 (by kernel_rfl)
                  refine Or.inl ⟨(hd 20 (by kernel_rfl) 128 (by kernel_rfl)).1, ?_⟩
                  clear hd hs
                  have cm : w.cell? ⟨r7, 0, none⟩ = some (.slice (some ⟨rb, 0, none⟩) m rc) := (hB.cell S9.out.R.lt).trans (S9.out.R.cellv rfl)
                  exact outcome_value (v := .agg #[.slice (some ⟨rb, 0, none⟩) m rc]) (by simp [go_sem, hc, hf, s7, cm]) ⟨rfl, hB, hrefl w⟩
                refine And.intro ?_ ?_
                · intro V ρ w hB hc hf hd hs
                  have s131 : ρ (.tmp 131) = .agg #[.slice (some ⟨rb, 0, none⟩) m rc] := (hd 23 (by kernel_rfl) 131 (by kernel_rfl)).2.trans (hd 23 (by kernel_rfl) 131 (by kernel_rfl)).1
                  refine Or.inl ⟨(hd 20 (by kernel_rfl) 128 (by kernel_rfl)).1, ?_⟩
                  clear hd hs
                  refine outcome_enter (w := w) (f := 23) (args := #[.agg #[.slice (some ⟨rb, 0, none⟩) m rc]]) (by simp [go_sem, hc, hf, s131]) ?_
                  refine (rfree_c (S9.out.V.below hB) hm2).mono ?_
                  rintro e w' ⟨rfl, Lx⟩
                  exact ⟨_, rfl, by rw [cnt_congr HUX.out]; rfl, hB.trans (Lx.mono hB.size), Lx⟩
                refine And.intro ?_ ?_
                · intro V ρ w hB hc hf hd hs
                  have s130 : ρ (.tmp 130) = .int .i64 ((m : Int) - (cnt (used X) m : Nat)) := (hd 22 (by kernel_rfl) 130 (by kernel_rfl)).2.trans (hd 22 (by kernel_rfl) 130 (by kernel_rfl)).1
                  have s132 : ρ (.tmp 132) = .int .i64 ((m : Int) - (cnt (used X) m : Nat)) := (hd 24 (by kernel_rfl) 132 (by kernel_rfl)).2.trans (hd 24 (by kernel_rfl) 132 (by kernel_rfl)).1
                  refine Or.inl ⟨(hd 20 (by kernel_rfl) 128 (by kernel_rfl)).1, ?_⟩
                  clear hd hs
                  refine outcome_value (v := .bool false) ?_ ⟨rfl, hB, hrefl w⟩
                  simp [go_sem, hc, hf, s130, s132]
                refine And.intro ?_ ?_
                · intro V ρ w hB hc hf hd hs
                  have s128 : ρ (.tmp 128) = .bool false := (hd 20 (by kernel_rfl) 128 (by kernel_rfl)).2.trans (hd 20 (by kernel_rfl) 128 (by kernel_rfl)).1
                  have s133 : ρ (.tmp 133) = .bool false := (hd 25 (by kernel_rfl) 133 (by kernel_rfl)).2.trans (hd 25 (by kernel_rfl) 133 (by kernel_rfl)).1
                  clear hd hs
                  refine outcome_value (v := .bool false) ?_ ⟨rfl, hB, hrefl w⟩
                  simp [go_sem, hc, hf, s128, s133]
                refine And.intro ?_ ?_
                · intro V ρ w hB hc hf hd hs
                  have s134 : ρ (.tmp 134) = .bool false := (hd 26 (by kernel_rfl) 134 (by kernel_rfl)).2.trans (hd 26 (by kernel_rfl) 134 (by kernel_rfl)).1
                  clear hd hs
                  rw [BigFrame.run_move (.tmp 134) rfl]
                  exact ⟨s134, hB, hrefl w⟩
                refine And.intro ?_ ?_
                · intro V ρ w hB hc hf hd hs
                  have s5 : ρ (.tmp 5) = .pointer (some ⟨b, 0, none⟩) := hs 5 (by kernel_rfl)
                  refine Or.inl ⟨(hd 27 (by kernel_rfl) 135 (by kernel_rfl)).1, ?_⟩
                  clear hd hs
                  rw [BigFrame.run_move (.tmp 5) rfl]
                  exact ⟨s5, hB, hrefl w⟩
                refine And.intro ?_ ?_
                · intro V ρ w hB hc hf hd hs
                  have s136 : ρ (.tmp 136) = .pointer (some ⟨b, 0, none⟩) := (hd 28 (by kernel_rfl) 136 (by kernel_rfl)).2.trans (hd 28 (by kernel_rfl) 136 (by kernel_rfl)).1
                  refine Or.inl ⟨(hd 27 (by kernel_rfl) 135 (by kernel_rfl)).1, ?_⟩
                  clear hd hs
                  refine outcome_enter (w := w) (f := 16) (args := #[.pointer (some ⟨b, 0, none⟩)]) (by simp [go_sem, hc, hf, s136]) ?_
                  refine (bytes_c (Fn.below S9.out.M hB (Fn.lt S9.out.M))).mono ?_
                  rintro e w' ⟨rfl, F, Lx⟩
                  exact ⟨_, rfl, Eq.mpr (if_pos rfl) ⟨_, rfl, F.lt, bts_of_fn F⟩, hB.trans (Lx.mono hB.size), Lx⟩
                refine And.intro ?_ ?_
                · intro V ρ w hB hc hf hd hs
                  obtain ⟨f137, s137⟩ := hd 29 (by kernel_rfl) 137 (by kernel_rfl)
                  refine Or.inl ⟨(hd 27 (by kernel_rfl) 135 (by kernel_rfl)).1, ?_⟩
                  clear hd hs
                  obtain ⟨g', hv, hg, hbt⟩ := (Eq.mp (if_pos rfl) f137)
                  rw [hv] at s137
                  exact outcome_value (v := .string (strOf (bt X) 64)) (run_conv rfl s137 (conv_bts hbt)) ⟨rfl, hB, hrefl w⟩
                refine And.intro ?_ ?_
                · intro V ρ w hB hc hf hd hs
                  have s7 : ρ (.tmp 7) = .pointer (some ⟨r7, 0, none⟩) := hs 7 (by kernel_rfl)
                  refine Or.inl ⟨(hd 27 (by kernel_rfl) 135 (by kernel_rfl)).1, ?_⟩
                  clear hd hs
                  have cm : w.cell? ⟨r7, 0, none⟩ = some (.slice (some ⟨rb, 0, none⟩) m rc) := (hB.cell S9.out.R.lt).trans (S9.out.R.cellv rfl)
                  exact outcome_value (v := .agg #[.slice (some ⟨rb, 0, none⟩) m rc]) (by simp [go_sem, hc, hf, s7, cm]) ⟨rfl, hB, hrefl w⟩
                refine And.intro ?_ ?_
                · intro V ρ w hB hc hf hd hs
                  have s139 : ρ (.tmp 139) = .agg #[.slice (some ⟨rb, 0, none⟩) m rc] := (hd 31 (by kernel_rfl) 139 (by kernel_rfl)).2.trans (hd 31 (by kernel_rfl) 139 (by kernel_rfl)).1
                  refine Or.inl ⟨(hd 27 (by kernel_rfl) 135 (by kernel_rfl)).1, ?_⟩
                  clear hd hs
                  refine outcome_enter (w := w) (f := 24) (args := #[.agg #[.slice (some ⟨rb, 0, none⟩) m rc]]) (by simp [go_sem, hc, hf, s139]) ?_
                  refine (rbytes_c (S9.out.V.below hB) hm2).mono ?_
                  rintro e w' ⟨g9, rfl, F, Lx⟩
                  exact ⟨_, rfl, Eq.mpr (if_neg (by decide)) (Eq.mpr (if_pos rfl) ⟨_, rfl, F.lt, bts_of_fn F⟩), hB.trans (Lx.mono hB.size), Lx⟩
                refine And.intro ?_ ?_
                · intro V ρ w hB hc hf hd hs
                  obtain ⟨f140, s140⟩ := hd 32 (by kernel_rfl) 140 (by kernel_rfl)
                  refine Or.inl ⟨(hd 27 (by kernel_rfl) 135 (by kernel_rfl)).1, ?_⟩
                  clear hd hs
                  obtain ⟨g', hv, hg, hbt⟩ := (Eq.mp (if_pos rfl) (Eq.mp (if_neg (by decide)) f140))
                  rw [hv] at s140
                  exact outcome_value (v := .string (strOf (bt X) 64)) (run_conv rfl s140 ((conv_bts hbt).trans (by rw [strOf_congr (n := 64) (fun j hj => rbt_bt HG9.out HUX.out j hj)]))) ⟨rfl, hB, hrefl w⟩
                refine And.intro ?_ ?_
                · intro V ρ w hB hc hf hd hs
                  have s138 : ρ (.tmp 138) = .string (strOf (bt X) 64) := (hd 30 (by kernel_rfl) 138 (by kernel_rfl)).2.trans (hd 30 (by kernel_rfl) 138 (by kernel_rfl)).1
                  have s141 : ρ (.tmp 141) = .string (strOf (bt X) 64) := (hd 33 (by kernel_rfl) 141 (by kernel_rfl)).2.trans (hd 33 (by kernel_rfl) 141 (by kernel_rfl)).1
                  refine Or.inl ⟨(hd 27 (by kernel_rfl) 135 (by kernel_rfl)).1, ?_⟩
                  clear hd hs
                  refine outcome_value (v := .bool false) ?_ ⟨rfl, hB, hrefl w⟩
                  simp [go_sem, hc, hf, s138, s141]
                refine And.intro ?_ ?_
                · intro V ρ w hB hc hf hd hs
                  have s135 : ρ (.tmp 135) = .bool false := (hd 27 (by kernel_rfl) 135 (by kernel_rfl)).2.trans (hd 27 (by kernel_rfl) 135 (by kernel_rfl)).1
                  have s142 : ρ (.tmp 142) = .bool false := (hd 34 (by kernel_rfl) 142 (by kernel_rfl)).2.trans (hd 34 (by kernel_rfl) 142 (by kernel_rfl)).1
                  clear hd hs
                  refine outcome_value (v := .bool false) ?_ ⟨rfl, hB, hrefl w⟩
                  simp [go_sem, hc, hf, s135, s142]
                refine And.intro ?_ ?_
                · intro V ρ w hB hc hf hd hs
                  have s143 : ρ (.tmp 143) = .bool false := (hd 35 (by kernel_rfl) 143 (by kernel_rfl)).2.trans (hd 35 (by kernel_rfl) 143 (by kernel_rfl)).1
                  clear hd hs
                  rw [BigFrame.run_move (.tmp 143) rfl]
                  exact ⟨s143, hB, hrefl w⟩
                refine And.intro ?_ ?_
                · intro V ρ w hB hc hf hd hs
                  have s5 : ρ (.tmp 5) = .pointer (some ⟨b, 0, none⟩) := hs 5 (by kernel_rfl)
                  refine Or.inl ⟨(hd 36 (by kernel_rfl) 144 (by kernel_rfl)).1, ?_⟩
                  clear hd hs
                  rw [BigFrame.run_move (.tmp 5) rfl]
                  exact ⟨s5, hB, hrefl w⟩
                refine And.intro ?_ ?_
                · intro V ρ w hB hc hf hd hs
                  have s145 : ρ (.tmp 145) = .pointer (some ⟨b, 0, none⟩) := (hd 37 (by kernel_rfl) 145 (by kernel_rfl)).2.trans (hd 37 (by kernel_rfl) 145 (by kernel_rfl)).1
                  refine Or.inl ⟨(hd 36 (by kernel_rfl) 144 (by kernel_rfl)).1, ?_⟩
                  clear hd hs
                  refine outcome_enter (w := w) (f := 25) (args := #[.pointer (some ⟨b, 0, none⟩)]) (by simp [go_sem, hc, hf, s145]) ?_
                  refine (len_c (Fn.below S9.out.M hB (Fn.lt S9.out.M))).mono ?_
                  rintro e w' ⟨rfl, rfl⟩
                  exact ⟨_, rfl, rfl, hB, hrefl _⟩
                refine And.intro ?_ ?_
                · intro V ρ w hB hc hf hd hs
                  have s0 : ρ (.tmp 0) = .int .i64 (m : Int) := hs 0 (by kernel_rfl)
                  refine Or.inl ⟨(hd 36 (by kernel_rfl) 144 (by kernel_rfl)).1, ?_⟩
                  clear hd hs
                  rw [BigFrame.run_move (.tmp 0) rfl]
                  exact ⟨s0, hB, hrefl w⟩
                refine And.intro ?_ ?_
                · intro V ρ w hB hc hf hd hs
                  have s146 : ρ (.tmp 146) = .int .i64 (m : Int) := (hd 38 (by kernel_rfl) 146 (by kernel_rfl)).2.trans (hd 38 (by kernel_rfl) 146 (by kernel_rfl)).1
                  have s147 : ρ (.tmp 147) = .int .i64 (m : Int) := (hd 39 (by kernel_rfl) 147 (by kernel_rfl)).2.trans (hd 39 (by kernel_rfl) 147 (by kernel_rfl)).1
                  refine Or.inl ⟨(hd 36 (by kernel_rfl) 144 (by kernel_rfl)).1, ?_⟩
                  clear hd hs
                  refine outcome_value (v := .bool false) ?_ ⟨rfl, hB, hrefl w⟩
                  simp [go_sem, hc, hf, s146, s147]
                refine And.intro ?_ ?_
                · intro V ρ w hB hc hf hd hs
                  have s144 : ρ (.tmp 144) = .bool false := (hd 36 (by kernel_rfl) 144 (by kernel_rfl)).2.trans (hd 36 (by kernel_rfl) 144 (by kernel_rfl)).1
                  have s148 : ρ (.tmp 148) = .bool false := (hd 40 (by kernel_rfl) 148 (by kernel_rfl)).2.trans (hd 40 (by kernel_rfl) 148 (by kernel_rfl)).1
                  clear hd hs
                  refine outcome_value (v := .bool false) ?_ ⟨rfl, hB, hrefl w⟩
                  simp [go_sem, hc, hf, s144, s148]
                refine And.intro ?_ ?_
                · intro V ρ w hB hc hf hd hs
                  have s149 : ρ (.tmp 149) = .bool false := (hd 41 (by kernel_rfl) 149 (by kernel_rfl)).2.trans (hd 41 (by kernel_rfl) 149 (by kernel_rfl)).1
                  clear hd hs
                  rw [BigFrame.run_move (.tmp 149) rfl]
                  exact ⟨s149, hB, hrefl w⟩
                refine And.intro ?_ ?_
                · intro V ρ w hB hc hf hd hs
                  have s11 : ρ (.tmp 11) = .pointer (some ⟨c, 0, none⟩) := hs 11 (by kernel_rfl)
                  refine Or.inl ⟨(hd 42 (by kernel_rfl) 150 (by kernel_rfl)).1, ?_⟩
                  clear hd hs
                  rw [BigFrame.run_move (.tmp 11) rfl]
                  exact ⟨s11, hB, hrefl w⟩
                refine And.intro ?_ ?_
                · intro V ρ w hB hc hf hd hs
                  have s151 : ρ (.tmp 151) = .pointer (some ⟨c, 0, none⟩) := (hd 43 (by kernel_rfl) 151 (by kernel_rfl)).2.trans (hd 43 (by kernel_rfl) 151 (by kernel_rfl)).1
                  refine Or.inl ⟨(hd 42 (by kernel_rfl) 150 (by kernel_rfl)).1, ?_⟩
                  clear hd hs
                  refine outcome_enter (w := w) (f := 16) (args := #[.pointer (some ⟨c, 0, none⟩)]) (by simp [go_sem, hc, hf, s151]) ?_
                  refine (bytes_c (Fn.below S9.out.C hB (Fn.lt S9.out.C))).mono ?_
                  rintro e w' ⟨rfl, F, Lx⟩
                  exact ⟨_, rfl, Eq.mpr (if_neg (by decide)) (Eq.mpr (if_neg (by decide)) (Eq.mpr (if_pos rfl) ⟨_, rfl, F.lt, bts_of_fn F⟩)), hB.trans (Lx.mono hB.size), Lx⟩
                refine And.intro ?_ ?_
                · intro V ρ w hB hc hf hd hs
                  obtain ⟨f152, s152⟩ := hd 44 (by kernel_rfl) 152 (by kernel_rfl)
                  refine Or.inl ⟨(hd 42 (by kernel_rfl) 150 (by kernel_rfl)).1, ?_⟩
                  clear hd hs
                  obtain ⟨g', hv, hg, hbt⟩ := (Eq.mp (if_pos rfl) (Eq.mp (if_neg (by decide)) (Eq.mp (if_neg (by decide)) f152)))
                  rw [hv] at s152
                  exact outcome_value (v := .string (strOf (bt X) 64)) (run_conv rfl s152 (conv_bts hbt)) ⟨rfl, hB, hrefl w⟩
                refine And.intro ?_ ?_
                · intro V ρ w hB hc hf hd hs
                  have s12 : ρ (.tmp 12) = .string (strOf (bt X) 64) := hs 12 (by kernel_rfl)
                  refine Or.inl ⟨(hd 42 (by kernel_rfl) 150 (by kernel_rfl)).1, ?_⟩
                  clear hd hs
                  rw [BigFrame.run_move (.tmp 12) rfl]
                  exact ⟨s12, hB, hrefl w⟩
                refine And.intro ?_ ?_
                · intro V ρ w hB hc hf hd hs
                  have s153 : ρ (.tmp 153) = .string (strOf (bt X) 64) := (hd 45 (by kernel_rfl) 153 (by kernel_rfl)).2.trans (hd 45 (by kernel_rfl) 153 (by kernel_rfl)).1
                  have s154 : ρ (.tmp 154) = .string (strOf (bt X) 64) := (hd 46 (by kernel_rfl) 154 (by kernel_rfl)).2.trans (hd 46 (by kernel_rfl) 154 (by kernel_rfl)).1
                  refine Or.inl ⟨(hd 42 (by kernel_rfl) 150 (by kernel_rfl)).1, ?_⟩
                  clear hd hs
                  refine outcome_value (v := .bool false) ?_ ⟨rfl, hB, hrefl w⟩
                  simp [go_sem, hc, hf, s153, s154]
                refine And.intro ?_ ?_
                · intro V ρ w hB hc hf hd hs
                  have s150 : ρ (.tmp 150) = .bool false := (hd 42 (by kernel_rfl) 150 (by kernel_rfl)).2.trans (hd 42 (by kernel_rfl) 150 (by kernel_rfl)).1
                  have s155 : ρ (.tmp 155) = .bool false := (hd 47 (by kernel_rfl) 155 (by kernel_rfl)).2.trans (hd 47 (by kernel_rfl) 155 (by kernel_rfl)).1
                  clear hd hs
                  refine outcome_value (v := .bool false) ?_ ⟨rfl, hB, hrefl w⟩
                  simp [go_sem, hc, hf, s150, s155]
                exact trivial
              case hend =>
                intro V w10 hB10 hV
                have vl : V 48 = .bool false := hV 48 (by decide)
                simp only [lexF, Act.put, List.setIfInBounds_toArray, List.set_cons_zero, List.set_cons_succ, vl]
                clear hV
                go_wp2
                go_roundg (len - (i + 1))
                case measure => omega
                case rel => exact ⟨i + 1, X, U, rb, rc, by go_num, rfl, by omega, hid (Fn.below S9.out.M hB10 (Fn.lt S9.out.M)), HG9, HL9, hid (S9.out.R.of_block (hB10.block _ S9.out.R.lt)), hid (S9.out.V.below hB10), HUX, hid (S9.out.L.trans (hB10.mono S9.out.L.size))⟩
            · skip
              have hfe : frees U m = frees (used X) m := frees_same HUX0.out
              have HFK := hid (show k ≤ (frees (used X) m).length by omega)
              have HFK' := hid (show k ≤ (frees U m).length by rw [hfe]; omega)
              clear hful hfe
              go_upto_region 24 with first
                | (go_at_call 12; refine (take_yes SD.out.M TD.out hb0 hm2 HG.out k hk8 HFK.out).mono ?_; rintro e wp ⟨vv, pp, X1, rfl, hE, hpn, hX1, M3, O3, R3⟩; have HE := hid hE; have HPN := hid hpn; have HX1 := hid hX1; have HO3 := hid O3; have SP := hid (SD.out.mod hm16 R3 M3 (by omega) (by omega) (by omega) hb); have crp := SP.out.R.cellv (i := 0) rfl; have ep1 : wp.cell? ⟨z10, 1, none⟩ = some (.int .i64 (k : Int)) := SP.out.A.cellv rfl; clear hE hpn hX1 M3 O3 R3)
                | (go_at_call 17; refine (rtake_yes SP.out.V hm16 hm2 k hk8 HFK'.out).mono ?_; rintro e we ⟨v', vv', p', rfl, hE', hp', hV', hO', Lx⟩; obtain ⟨rb1, rc1, rfl⟩ := rm_form hV'; have HE' := hid hE'; have HP' := hid hp'; have HV' := hid hV'; have HO' := hid hO'; have SE := hid (SP.out.below Lx); have HLE := hid Lx; have cre := SE.out.R.cellv (i := 0) rfl; have fre := SE.out.R.frozen 0; clear hE' hp' hV' hO' Lx)
              obtain rfl : p' = pp := Ends.inj HE'.out (ends_same (fun j hj => (HUX0.out j (by have := HPN.out; omega)).symm) HE.out)
              obtain ⟨p13, c13, rfl, _⟩ := own_row HO3.out
              obtain ⟨p14, c14, rfl, _⟩ := own_row HO'.out
              have hfe : frees U p' = frees (used X) p' := frees_same (fun j hj => HUX0.out j (by have := HPN.out; omega))
              have R13a := hid ((row_of_own HO3.out).below HLE.out)
              have R14a := hid (row_of_own HO'.out)
              rw [hfe] at R14a
              have hkx : (frees (used X) p').length = k := HE.out.1
              have R13 := hid (R13a.out.set SE.out.R (.slice (some ⟨rb1, 0, none⟩) m rc1))
              have R14 := hid (R14a.out.set SE.out.R (.slice (some ⟨rb1, 0, none⟩) m rc1))
              have HG9 := hid (tight_take HG.out HPN.out HX1.out)
              have HL9 := hid (lab_take HLB.out HX1.out)
              have HUX := hid (show ∀ j, j < m → (fun j => U j || decide (j < p')) j = used X1 j from fun j hj => by rw [HX1.out j, ← HUX0.out j hj])
              have hl8 := hk8
              have S9 := hid (SE.out.set hm16 HV'.out (by omega) hsr hcr hr7w)
              obtain ⟨w9, hw9⟩ : ∃ w9, w9 = we.setCell ⟨r7, 0, none⟩ (.slice (some ⟨rb1, 0, none⟩) m rc1) := ⟨_, rfl⟩
              rw [← hw9] at S9 R13 R14 ⊢
              clear hw9 hfe
              obtain ⟨l, hl0⟩ : ∃ l, l = frees (used X) p' := ⟨_, rfl⟩
              rw [← hl0] at R13 R14 hkx
              clear hl0 e0 e1 e2 e3 cr cre fre crp ep1 hku' UD SD SE SP HG HLB TD R13a R14a HO3 HO' HV' HE HE' HLE

              obtain ⟨u, hu1, hu2⟩ := used_both (b := b) hm2 HUX.out (k : Int)
              have HU1 := hid hu1
              have HU2 := hid hu2
              clear hu1 hu2
              have hrefl := HRF.out
              refine region_rel (n := 158) (B := fun w' => Below w9.heap.size w9 w') (E := fun w w' => Below w.heap.size w w') (φ := (fun (kq : Nat) (v : Value) (w : World) => if kq = 29 then ∃ g : Nat, v = .slice (some ⟨g, 0, none⟩) 64 64 ∧ g < w.heap.size ∧ Bts w g 0 64 (bt X1) else if kq = 32 then ∃ g : Nat, v = .slice (some ⟨g, 0, none⟩) 64 64 ∧ g < w.heap.size ∧ Bts w g 0 64 (rbt (fun j => U j || decide (j < p')) m) else if kq = 44 then ∃ g : Nat, v = .slice (some ⟨g, 0, none⟩) 64 64 ∧ g < w.heap.size ∧ Bts w g 0 64 (bt X) else v = ([.int .i64 0, .int .i64 0, .bool false, .bool false, .slice p13 k c13, .slice p14 k c14, .bool true, .bool false, .bool false, .bool false, .pointer (some ⟨b, 0, none⟩), .pointer (some ⟨z10, 1, none⟩), .int .i64 (k : Int), .bool u, .agg #[.slice (some ⟨rb1, 0, none⟩) m rc1], .pointer (some ⟨z10, 1, none⟩), .int .i64 (k : Int), .bool u, .bool false, .bool false, .bool false, .pointer (some ⟨b, 0, none⟩), .int .i64 ((m : Int) - (cnt (used X1) m : Nat)), .agg #[.slice (some ⟨rb1, 0, none⟩) m rc1], .int .i64 ((m : Int) - (cnt (used X1) m : Nat)), .bool false, .bool false, .bool false, .pointer (some ⟨b, 0, none⟩), undef, .string (strOf (bt X1) 64), .agg #[.slice (some ⟨rb1, 0, none⟩) m rc1], undef, .string (strOf (bt X1) 64), .bool false, .bool false, .bool false, .pointer (some ⟨b, 0, none⟩), .int .i64 (m : Int), .int .i64 (m : Int), .bool false, .bool false, .bool false, .pointer (some ⟨c, 0, none⟩), undef, .string (strOf (bt X) 64), .string (strOf (bt X) 64), .bool false, .bool false] : List Value).getD kq undef)) (by kernel_rfl) (by kernel_rfl) (by kernel_rfl) (by kernel_rfl) ?mono hrefl ((Below.refl _ _).drew) ?hop ?hend
              case mono =>
                intro j v w w' h hE
                dsimp only at h
                split at h
                · rename_i hj
                  subst hj
                  obtain ⟨g, h1, h2, h3⟩ := h
                  exact Eq.mpr (if_pos rfl) ⟨g, h1, Nat.lt_of_lt_of_le h2 hE.size, h3.below h2 hE⟩
                · rename_i hj
                  rw [if_neg hj]
                  split at h
                  · rename_i hj
                    subst hj
                    obtain ⟨g, h1, h2, h3⟩ := h
                    exact Eq.mpr (if_pos rfl) ⟨g, h1, Nat.lt_of_lt_of_le h2 hE.size, h3.below h2 hE⟩
                  · rename_i hj
                    rw [if_neg hj]
                    split at h
                    · rename_i hj
                      subst hj
                      obtain ⟨g, h1, h2, h3⟩ := h
                      exact Eq.mpr (if_pos rfl) ⟨g, h1, Nat.lt_of_lt_of_le h2 hE.size, h3.below h2 hE⟩
                    · rename_i hj
                      rw [if_neg hj]
                      exact h
              case hop =>
                refine And.intro ?_ ?_
                · intro V ρ w hB hc hf hd hs
                  have s15 : ρ (.tmp 15) = .int .i64 0 := hs 15 (by kernel_rfl)
                  clear hd hs
                  rw [BigFrame.run_move (.tmp 15) rfl]
                  exact ⟨s15, hB, hrefl w⟩
                refine And.intro ?_ ?_
                · intro V ρ w hB hc hf hd hs
                  have s16 : ρ (.tmp 16) = .int .i64 0 := hs 16 (by kernel_rfl)
                  clear hd hs
                  rw [BigFrame.run_move (.tmp 16) rfl]
                  exact ⟨s16, hB, hrefl w⟩
                refine And.intro ?_ ?_
                · intro V ρ w hB hc hf hd hs
                  have s108 : ρ (.tmp 108) = .int .i64 0 := (hd 0 (by kernel_rfl) 108 (by kernel_rfl)).2.trans (hd 0 (by kernel_rfl) 108 (by kernel_rfl)).1
                  have s109 : ρ (.tmp 109) = .int .i64 0 := (hd 1 (by kernel_rfl) 109 (by kernel_rfl)).2.trans (hd 1 (by kernel_rfl) 109 (by kernel_rfl)).1
                  clear hd hs
                  refine outcome_value (v := .bool false) ?_ ⟨rfl, hB, hrefl w⟩
                  simp [go_sem, hc, hf, s108, s109]
                refine And.intro ?_ ?_
                · intro V ρ w hB hc hf hd hs
                  have s110 : ρ (.tmp 110) = .bool false := (hd 2 (by kernel_rfl) 110 (by kernel_rfl)).2.trans (hd 2 (by kernel_rfl) 110 (by kernel_rfl)).1
                  clear hd hs
                  rw [BigFrame.run_move (.tmp 110) rfl]
                  exact ⟨s110, hB, hrefl w⟩
                refine And.intro ?_ ?_
                · intro V ρ w hB hc hf hd hs
                  have s13 : ρ (.tmp 13) = .slice p13 k c13 := hs 13 (by kernel_rfl)
                  refine Or.inl ⟨(hd 3 (by kernel_rfl) 111 (by kernel_rfl)).1, ?_⟩
                  clear hd hs
                  rw [BigFrame.run_move (.tmp 13) rfl]
                  exact ⟨s13, hB, hrefl w⟩
                refine And.intro ?_ ?_
                · intro V ρ w hB hc hf hd hs
                  have s14 : ρ (.tmp 14) = .slice p14 k c14 := hs 14 (by kernel_rfl)
                  refine Or.inl ⟨(hd 3 (by kernel_rfl) 111 (by kernel_rfl)).1, ?_⟩
                  clear hd hs
                  rw [BigFrame.run_move (.tmp 14) rfl]
                  exact ⟨s14, hB, hrefl w⟩
                refine And.intro ?_ ?_
                · intro V ρ w hB hc hf hd hs
                  have s112 : ρ (.tmp 112) = .slice p13 k c13 := (hd 4 (by kernel_rfl) 112 (by kernel_rfl)).2.trans (hd 4 (by kernel_rfl) 112 (by kernel_rfl)).1
                  have s113 : ρ (.tmp 113) = .slice p14 k c14 := (hd 5 (by kernel_rfl) 113 (by kernel_rfl)).2.trans (hd 5 (by kernel_rfl) 113 (by kernel_rfl)).1
                  refine Or.inl ⟨(hd 3 (by kernel_rfl) 111 (by kernel_rfl)).1, ?_⟩
                  clear hd hs
                  refine outcome_enter (w := w) (f := 21) (args := #[.slice p13 k c13, .slice p14 k c14]) (by simp [go_sem, hc, hf, s112, s113]) ?_
                  refine (same_n hkx _ _ hl8 (R13.out.below hB) (R14.out.below hB)).mono ?_
                  rintro e w' ⟨rfl, Lx⟩
                  exact ⟨_, rfl, rfl, hB.trans (Lx.mono hB.size), Lx⟩
                refine And.intro ?_ ?_
                · intro V ρ w hB hc hf hd hs
                  have s114 : ρ (.tmp 114) = .bool true := (hd 6 (by kernel_rfl) 114 (by kernel_rfl)).2.trans (hd 6 (by kernel_rfl) 114 (by kernel_rfl)).1
                  refine Or.inl ⟨(hd 3 (by kernel_rfl) 111 (by kernel_rfl)).1, ?_⟩
                  clear hd hs
                  refine outcome_value (v := .bool false) ?_ ⟨rfl, hB, hrefl w⟩
                  simp [go_sem, hc, hf, s114]
                refine And.intro ?_ ?_
                · intro V ρ w hB hc hf hd hs
                  have s111 : ρ (.tmp 111) = .bool false := (hd 3 (by kernel_rfl) 111 (by kernel_rfl)).2.trans (hd 3 (by kernel_rfl) 111 (by kernel_rfl)).1
                  have s115 : ρ (.tmp 115) = .bool false := (hd 7 (by kernel_rfl) 115 (by kernel_rfl)).2.trans (hd 7 (by kernel_rfl) 115 (by kernel_rfl)).1
                  clear hd hs
                  refine outcome_value (v := .bool false) ?_ ⟨rfl, hB, hrefl w⟩
                  simp [go_sem, hc, hf, s111, s115]
                refine And.intro ?_ ?_
                · intro V ρ w hB hc hf hd hs
                  have s116 : ρ (.tmp 116) = .bool false := (hd 8 (by kernel_rfl) 116 (by kernel_rfl)).2.trans (hd 8 (by kernel_rfl) 116 (by kernel_rfl)).1
                  clear hd hs
                  rw [BigFrame.run_move (.tmp 116) rfl]
                  exact ⟨s116, hB, hrefl w⟩
                refine And.intro ?_ ?_
                · intro V ρ w hB hc hf hd hs
                  have s5 : ρ (.tmp 5) = .pointer (some ⟨b, 0, none⟩) := hs 5 (by kernel_rfl)
                  refine Or.inl ⟨(hd 9 (by kernel_rfl) 117 (by kernel_rfl)).1, ?_⟩
                  clear hd hs
                  rw [BigFrame.run_move (.tmp 5) rfl]
                  exact ⟨s5, hB, hrefl w⟩
                refine And.intro ?_ ?_
                · intro V ρ w hB hc hf hd hs
                  have s10 : ρ (.tmp 10) = .pointer (some ⟨z10, 0, none⟩) := hs 10 (by kernel_rfl)
                  refine Or.inl ⟨(hd 9 (by kernel_rfl) 117 (by kernel_rfl)).1, ?_⟩
                  clear hd hs
                  refine outcome_value (v := .pointer (some ⟨z10, 1, none⟩)) ?_ ⟨rfl, hB, hrefl w⟩
                  simp [go_sem, hc, hf, s10]
                refine And.intro ?_ ?_
                · intro V ρ w hB hc hf hd hs
                  have s119 : ρ (.tmp 119) = .pointer (some ⟨z10, 1, none⟩) := (hd 11 (by kernel_rfl) 119 (by kernel_rfl)).2.trans (hd 11 (by kernel_rfl) 119 (by kernel_rfl)).1
                  refine Or.inl ⟨(hd 9 (by kernel_rfl) 117 (by kernel_rfl)).1, ?_⟩
                  clear hd hs
                  have cn : w.cell? ⟨z10, 1, none⟩ = some (.int .i64 (k : Int)) := (hB.cell S9.out.A.lt).trans (S9.out.A.cellv rfl)
                  exact outcome_value (v := .int .i64 (k : Int)) (by simp [go_sem, hc, hf, s119, cn]) ⟨rfl, hB, hrefl w⟩
                refine And.intro ?_ ?_
                · intro V ρ w hB hc hf hd hs
                  have s118 : ρ (.tmp 118) = .pointer (some ⟨b, 0, none⟩) := (hd 10 (by kernel_rfl) 118 (by kernel_rfl)).2.trans (hd 10 (by kernel_rfl) 118 (by kernel_rfl)).1
                  have s120 : ρ (.tmp 120) = .int .i64 (k : Int) := (hd 12 (by kernel_rfl) 120 (by kernel_rfl)).2.trans (hd 12 (by kernel_rfl) 120 (by kernel_rfl)).1
                  refine Or.inl ⟨(hd 9 (by kernel_rfl) 117 (by kernel_rfl)).1, ?_⟩
                  clear hd hs
                  refine outcome_enter (w := w) (f := 13) (args := #[.pointer (some ⟨b, 0, none⟩), .int .i64 (k : Int)]) (by simp [go_sem, hc, hf, s118, s120]) ?_
                  refine (HU1.out w (Fn.below S9.out.M hB (Fn.lt S9.out.M))).mono ?_
                  rintro e w' ⟨rfl, rfl⟩
                  exact ⟨_, rfl, rfl, hB, hrefl _⟩
                refine And.intro ?_ ?_
                · intro V ρ w hB hc hf hd hs
                  have s7 : ρ (.tmp 7) = .pointer (some ⟨r7, 0, none⟩) := hs 7 (by kernel_rfl)
                  refine Or.inl ⟨(hd 9 (by kernel_rfl) 117 (by kernel_rfl)).1, ?_⟩
                  clear hd hs
                  have cm : w.cell? ⟨r7, 0, none⟩ = some (.slice (some ⟨rb1, 0, none⟩) m rc1) := (hB.cell S9.out.R.lt).trans (S9.out.R.cellv rfl)
                  exact outcome_value (v := .agg #[.slice (some ⟨rb1, 0, none⟩) m rc1]) (by simp [go_sem, hc, hf, s7, cm]) ⟨rfl, hB, hrefl w⟩
                refine And.intro ?_ ?_
                · intro V ρ w hB hc hf hd hs
                  have s10 : ρ (.tmp 10) = .pointer (some ⟨z10, 0, none⟩) := hs 10 (by kernel_rfl)
                  refine Or.inl ⟨(hd 9 (by kernel_rfl) 117 (by kernel_rfl)).1, ?_⟩
                  clear hd hs
                  refine outcome_value (v := .pointer (some ⟨z10, 1, none⟩)) ?_ ⟨rfl, hB, hrefl w⟩
                  simp [go_sem, hc, hf, s10]
                refine And.intro ?_ ?_
                · intro V ρ w hB hc hf hd hs
                  have s123 : ρ (.tmp 123) = .pointer (some ⟨z10, 1, none⟩) := (hd 15 (by kernel_rfl) 123 (by kernel_rfl)).2.trans (hd 15 (by kernel_rfl) 123 (by kernel_rfl)).1
                  refine Or.inl ⟨(hd 9 (by kernel_rfl) 117 (by kernel_rfl)).1, ?_⟩
                  clear hd hs
                  have cn : w.cell? ⟨z10, 1, none⟩ = some (.int .i64 (k : Int)) := (hB.cell S9.out.A.lt).trans (S9.out.A.cellv rfl)
                  exact outcome_value (v := .int .i64 (k : Int)) (by simp [go_sem, hc, hf, s123, cn]) ⟨rfl, hB, hrefl w⟩
                refine And.intro ?_ ?_
                · intro V ρ w hB hc hf hd hs
                  have s122 : ρ (.tmp 122) = .agg #[.slice (some ⟨rb1, 0, none⟩) m rc1] := (hd 14 (by kernel_rfl) 122 (by kernel_rfl)).2.trans (hd 14 (by kernel_rfl) 122 (by kernel_rfl)).1
                  have s124 : ρ (.tmp 124) = .int .i64 (k : Int) := (hd 16 (by kernel_rfl) 124 (by kernel_rfl)).2.trans (hd 16 (by kernel_rfl) 124 (by kernel_rfl)).1
                  refine Or.inl ⟨(hd 9 (by kernel_rfl) 117 (by kernel_rfl)).1, ?_⟩
                  clear hd hs
                  refine outcome_enter (w := w) (f := 22) (args := #[.agg #[.slice (some ⟨rb1, 0, none⟩) m rc1], .int .i64 (k : Int)]) (by simp [go_sem, hc, hf, s122, s124]) ?_
                  refine (HU2.out w _ (S9.out.V.below hB)).mono ?_
                  rintro e w' ⟨rfl, Lx⟩
                  exact ⟨_, rfl, rfl, hB.trans (Lx.mono hB.size), Lx⟩
                refine And.intro ?_ ?_
                · intro V ρ w hB hc hf hd hs
                  have s121 : ρ (.tmp 121) = .bool u := (hd 13 (by kernel_rfl) 121 (by kernel_rfl)).2.trans (hd 13 (by kernel_rfl) 121 (by kernel_rfl)).1
                  have s125 : ρ (.tmp 125) = .bool u := (hd 17 (by kernel_rfl) 125 (by kernel_rfl)).2.trans (hd 17 (by kernel_rfl) 125 (by kernel_rfl)).1
                  refine Or.inl ⟨(hd 9 (by kernel_rfl) 117 (by kernel_rfl)).1, ?_⟩
                  clear hd hs
                  refine outcome_value (v := .bool false) ?_ ⟨rfl, hB, hrefl w⟩
                  simp [go_sem, hc, hf, s121, s125]
                refine And.intro ?_ ?_
                · intro V ρ w hB hc hf hd hs
                  have s117 : ρ (.tmp 117) = .bool false := (hd 9 (by kernel_rfl) 117 (by kernel_rfl)).2.trans (hd 9 (by kernel_rfl) 117 (by kernel_rfl)).1
                  have s126 : ρ (.tmp 126) = .bool false := (hd 18 (by kernel_rfl) 126 (by kernel_rfl)).2.trans (hd 18 (by kernel_rfl) 126 (by kernel_rfl)).1
                  clear hd hs
                  refine outcome_value (v := .bool false) ?_ ⟨rfl, hB, hrefl w⟩
                  simp [go_sem, hc, hf, s117, s126]
                refine And.intro ?_ ?_
                · intro V ρ w hB hc hf hd hs
                  have s127 : ρ (.tmp 127) = .bool false := (hd 19 (by kernel_rfl) 127 (by kernel_rfl)).2.trans (hd 19 (by kernel_rfl) 127 (by kernel_rfl)).1
                  clear hd hs
                  rw [BigFrame.run_move (.tmp 127) rfl]
                  exact ⟨s127, hB, hrefl w⟩
                refine And.intro ?_ ?_
                · intro V ρ w hB hc hf hd hs
                  have s5 : ρ (.tmp 5) = .pointer (some ⟨b, 0, none⟩) := hs 5 (by kernel_rfl)
                  refine Or.inl ⟨(hd 20 (by kernel_rfl) 128 (by kernel_rfl)).1, ?_⟩
                  clear hd hs
                  rw [BigFrame.run_move (.tmp 5) rfl]
                  exact ⟨s5, hB, hrefl w⟩
                refine And.intro ?_ ?_
                · intro V ρ w hB hc hf hd hs
                  have s129 : ρ (.tmp 129) = .pointer (some ⟨b, 0, none⟩) := (hd 21 (by kernel_rfl) 129 (by kernel_rfl)).2.trans (hd 21 (by kernel_rfl) 129 (by kernel_rfl)).1
                  refine Or.inl ⟨(hd 20 (by kernel_rfl) 128 (by kernel_rfl)).1, ?_⟩
                  clear hd hs
                  refine outcome_enter (w := w) (f := 11) (args := #[.pointer (some ⟨b, 0, none⟩)]) (by simp [go_sem, hc, hf, s129]) ?_
                  refine (free_c (Fn.below S9.out.M hB (Fn.lt S9.out.M)) hm2 HG9.out).mono ?_
                  rintro e w' ⟨rfl, rfl⟩
                  exact ⟨_, rfl, rfl, hB, hrefl _⟩
                refine And.intro ?_ ?_
                · intro V ρ w hB hc hf hd hs
                  have s7 : ρ (.tmp 7) = .pointer (some ⟨r7, 0, none⟩) := hs 7 (by kernel_rfl)
                  refine Or.inl ⟨(hd 20 (by kernel_rfl) 128 (by kernel_rfl)).1, ?_⟩
                  clear hd hs
                  have cm : w.cell? ⟨r7, 0, none⟩ = some (.slice (some ⟨rb1, 0, none⟩) m rc1) := (hB.cell S9.out.R.lt).trans (S9.out.R.cellv rfl)
                  exact outcome_value (v := .agg #[.slice (some ⟨rb1, 0, none⟩) m rc1]) (by simp [go_sem, hc, hf, s7, cm]) ⟨rfl, hB, hrefl w⟩
                refine And.intro ?_ ?_
                · intro V ρ w hB hc hf hd hs
                  have s131 : ρ (.tmp 131) = .agg #[.slice (some ⟨rb1, 0, none⟩) m rc1] := (hd 23 (by kernel_rfl) 131 (by kernel_rfl)).2.trans (hd 23 (by kernel_rfl) 131 (by kernel_rfl)).1
                  refine Or.inl ⟨(hd 20 (by kernel_rfl) 128 (by kernel_rfl)).1, ?_⟩
                  clear hd hs
                  refine outcome_enter (w := w) (f := 23) (args := #[.agg #[.slice (some ⟨rb1, 0, none⟩) m rc1]]) (by simp [go_sem, hc, hf, s131]) ?_
                  refine (rfree_c (S9.out.V.below hB) hm2).mono ?_
                  rintro e w' ⟨rfl, Lx⟩
                  exact ⟨_, rfl, by rw [cnt_congr HUX.out]; rfl, hB.trans (Lx.mono hB.size), Lx⟩
                refine And.intro ?_ ?_
                · intro V ρ w hB hc hf hd hs
                  have s130 : ρ (.tmp 130) = .int .i64 ((m : Int) - (cnt (used X1) m : Nat)) := (hd 22 (by kernel_rfl) 130 (by kernel_rfl)).2.trans (hd 22 (by kernel_rfl) 130 (by kernel_rfl)).1
                  have s132 : ρ (.tmp 132) = .int .i64 ((m : Int) - (cnt (used X1) m : Nat)) := (hd 24 (by kernel_rfl) 132 (by kernel_rfl)).2.trans (hd 24 (by kernel_rfl) 132 (by kernel_rfl)).1
                  refine Or.inl ⟨(hd 20 (by kernel_rfl) 128 (by kernel_rfl)).1, ?_⟩
                  clear hd hs
                  refine outcome_value (v := .bool false) ?_ ⟨rfl, hB, hrefl w⟩
                  simp [go_sem, hc, hf, s130, s132]
                refine And.intro ?_ ?_
                · intro V ρ w hB hc hf hd hs
                  have s128 : ρ (.tmp 128) = .bool false := (hd 20 (by kernel_rfl) 128 (by kernel_rfl)).2.trans (hd 20 (by kernel_rfl) 128 (by kernel_rfl)).1
                  have s133 : ρ (.tmp 133) = .bool false := (hd 25 (by kernel_rfl) 133 (by kernel_rfl)).2.trans (hd 25 (by kernel_rfl) 133 (by kernel_rfl)).1
                  clear hd hs
                  refine outcome_value (v := .bool false) ?_ ⟨rfl, hB, hrefl w⟩
                  simp [go_sem, hc, hf, s128, s133]
                refine And.intro ?_ ?_
                · intro V ρ w hB hc hf hd hs
                  have s134 : ρ (.tmp 134) = .bool false := (hd 26 (by kernel_rfl) 134 (by kernel_rfl)).2.trans (hd 26 (by kernel_rfl) 134 (by kernel_rfl)).1
                  clear hd hs
                  rw [BigFrame.run_move (.tmp 134) rfl]
                  exact ⟨s134, hB, hrefl w⟩
                refine And.intro ?_ ?_
                · intro V ρ w hB hc hf hd hs
                  have s5 : ρ (.tmp 5) = .pointer (some ⟨b, 0, none⟩) := hs 5 (by kernel_rfl)
                  refine Or.inl ⟨(hd 27 (by kernel_rfl) 135 (by kernel_rfl)).1, ?_⟩
                  clear hd hs
                  rw [BigFrame.run_move (.tmp 5) rfl]
                  exact ⟨s5, hB, hrefl w⟩
                refine And.intro ?_ ?_
                · intro V ρ w hB hc hf hd hs
                  have s136 : ρ (.tmp 136) = .pointer (some ⟨b, 0, none⟩) := (hd 28 (by kernel_rfl) 136 (by kernel_rfl)).2.trans (hd 28 (by kernel_rfl) 136 (by kernel_rfl)).1
                  refine Or.inl ⟨(hd 27 (by kernel_rfl) 135 (by kernel_rfl)).1, ?_⟩
                  clear hd hs
                  refine outcome_enter (w := w) (f := 16) (args := #[.pointer (some ⟨b, 0, none⟩)]) (by simp [go_sem, hc, hf, s136]) ?_
                  refine (bytes_c (Fn.below S9.out.M hB (Fn.lt S9.out.M))).mono ?_
                  rintro e w' ⟨rfl, F, Lx⟩
                  exact ⟨_, rfl, Eq.mpr (if_pos rfl) ⟨_, rfl, F.lt, bts_of_fn F⟩, hB.trans (Lx.mono hB.size), Lx⟩
                refine And.intro ?_ ?_
                · intro V ρ w hB hc hf hd hs
                  obtain ⟨f137, s137⟩ := hd 29 (by kernel_rfl) 137 (by kernel_rfl)
                  refine Or.inl ⟨(hd 27 (by kernel_rfl) 135 (by kernel_rfl)).1, ?_⟩
                  clear hd hs
                  obtain ⟨g', hv, hg, hbt⟩ := (Eq.mp (if_pos rfl) f137)
                  rw [hv] at s137
                  exact outcome_value (v := .string (strOf (bt X1) 64)) (run_conv rfl s137 (conv_bts hbt)) ⟨rfl, hB, hrefl w⟩
                refine And.intro ?_ ?_
                · intro V ρ w hB hc hf hd hs
                  have s7 : ρ (.tmp 7) = .pointer (some ⟨r7, 0, none⟩) := hs 7 (by kernel_rfl)
                  refine Or.inl ⟨(hd 27 (by kernel_rfl) 135 (by kernel_rfl)).1, ?_⟩
                  clear hd hs
                  have cm : w.cell? ⟨r7, 0, none⟩ = some (.slice (some ⟨rb1, 0, none⟩) m rc1) := (hB.cell S9.out.R.lt).trans (S9.out.R.cellv rfl)
                  exact outcome_value (v := .agg #[.slice (some ⟨rb1, 0, none⟩) m rc1]) (by simp [go_sem, hc, hf, s7, cm]) ⟨rfl, hB, hrefl w⟩
                refine And.intro ?_ ?_
                · intro V ρ w hB hc hf hd hs
                  have s139 : ρ (.tmp 139) = .agg #[.slice (some ⟨rb1, 0, none⟩) m rc1] := (hd 31 (by kernel_rfl) 139 (by kernel_rfl)).2.trans (hd 31 (by kernel_rfl) 139 (by kernel_rfl)).1
                  refine Or.inl ⟨(hd 27 (by kernel_rfl) 135 (by kernel_rfl)).1, ?_⟩
                  clear hd hs
                  refine outcome_enter (w := w) (f := 24) (args := #[.agg #[.slice (some ⟨rb1, 0, none⟩) m rc1]]) (by simp [go_sem, hc, hf, s139]) ?_
                  refine (rbytes_c (S9.out.V.below hB) hm2).mono ?_
                  rintro e w' ⟨g9, rfl, F, Lx⟩
                  exact ⟨_, rfl, Eq.mpr (if_neg (by decide)) (Eq.mpr (if_pos rfl) ⟨_, rfl, F.lt, bts_of_fn F⟩), hB.trans (Lx.mono hB.size), Lx⟩
                refine And.intro ?_ ?_
                · intro V ρ w hB hc hf hd hs
                  obtain ⟨f140, s140⟩ := hd 32 (by kernel_rfl) 140 (by kernel_rfl)
                  refine Or.inl ⟨(hd 27 (by kernel_rfl) 135 (by kernel_rfl)).1, ?_⟩
                  clear hd hs
                  obtain ⟨g', hv, hg, hbt⟩ := (Eq.mp (if_pos rfl) (Eq.mp (if_neg (by decide)) f140))
                  rw [hv] at s140
                  exact outcome_value (v := .string (strOf (bt X1) 64)) (run_conv rfl s140 ((conv_bts hbt).trans (by rw [strOf_congr (n := 64) (fun j hj => rbt_bt HG9.out HUX.out j hj)]))) ⟨rfl, hB, hrefl w⟩
                refine And.intro ?_ ?_
                · intro V ρ w hB hc hf hd hs
                  have s138 : ρ (.tmp 138) = .string (strOf (bt X1) 64) := (hd 30 (by kernel_rfl) 138 (by kernel_rfl)).2.trans (hd 30 (by kernel_rfl) 138 (by kernel_rfl)).1
                  have s141 : ρ (.tmp 141) = .string (strOf (bt X1) 64) := (hd 33 (by kernel_rfl) 141 (by kernel_rfl)).2.trans (hd 33 (by kernel_rfl) 141 (by kernel_rfl)).1
                  refine Or.inl ⟨(hd 27 (by kernel_rfl) 135 (by kernel_rfl)).1, ?_⟩
                  clear hd hs
                  refine outcome_value (v := .bool false) ?_ ⟨rfl, hB, hrefl w⟩
                  simp [go_sem, hc, hf, s138, s141]
                refine And.intro ?_ ?_
                · intro V ρ w hB hc hf hd hs
                  have s135 : ρ (.tmp 135) = .bool false := (hd 27 (by kernel_rfl) 135 (by kernel_rfl)).2.trans (hd 27 (by kernel_rfl) 135 (by kernel_rfl)).1
                  have s142 : ρ (.tmp 142) = .bool false := (hd 34 (by kernel_rfl) 142 (by kernel_rfl)).2.trans (hd 34 (by kernel_rfl) 142 (by kernel_rfl)).1
                  clear hd hs
                  refine outcome_value (v := .bool false) ?_ ⟨rfl, hB, hrefl w⟩
                  simp [go_sem, hc, hf, s135, s142]
                refine And.intro ?_ ?_
                · intro V ρ w hB hc hf hd hs
                  have s143 : ρ (.tmp 143) = .bool false := (hd 35 (by kernel_rfl) 143 (by kernel_rfl)).2.trans (hd 35 (by kernel_rfl) 143 (by kernel_rfl)).1
                  clear hd hs
                  rw [BigFrame.run_move (.tmp 143) rfl]
                  exact ⟨s143, hB, hrefl w⟩
                refine And.intro ?_ ?_
                · intro V ρ w hB hc hf hd hs
                  have s5 : ρ (.tmp 5) = .pointer (some ⟨b, 0, none⟩) := hs 5 (by kernel_rfl)
                  refine Or.inl ⟨(hd 36 (by kernel_rfl) 144 (by kernel_rfl)).1, ?_⟩
                  clear hd hs
                  rw [BigFrame.run_move (.tmp 5) rfl]
                  exact ⟨s5, hB, hrefl w⟩
                refine And.intro ?_ ?_
                · intro V ρ w hB hc hf hd hs
                  have s145 : ρ (.tmp 145) = .pointer (some ⟨b, 0, none⟩) := (hd 37 (by kernel_rfl) 145 (by kernel_rfl)).2.trans (hd 37 (by kernel_rfl) 145 (by kernel_rfl)).1
                  refine Or.inl ⟨(hd 36 (by kernel_rfl) 144 (by kernel_rfl)).1, ?_⟩
                  clear hd hs
                  refine outcome_enter (w := w) (f := 25) (args := #[.pointer (some ⟨b, 0, none⟩)]) (by simp [go_sem, hc, hf, s145]) ?_
                  refine (len_c (Fn.below S9.out.M hB (Fn.lt S9.out.M))).mono ?_
                  rintro e w' ⟨rfl, rfl⟩
                  exact ⟨_, rfl, rfl, hB, hrefl _⟩
                refine And.intro ?_ ?_
                · intro V ρ w hB hc hf hd hs
                  have s0 : ρ (.tmp 0) = .int .i64 (m : Int) := hs 0 (by kernel_rfl)
                  refine Or.inl ⟨(hd 36 (by kernel_rfl) 144 (by kernel_rfl)).1, ?_⟩
                  clear hd hs
                  rw [BigFrame.run_move (.tmp 0) rfl]
                  exact ⟨s0, hB, hrefl w⟩
                refine And.intro ?_ ?_
                · intro V ρ w hB hc hf hd hs
                  have s146 : ρ (.tmp 146) = .int .i64 (m : Int) := (hd 38 (by kernel_rfl) 146 (by kernel_rfl)).2.trans (hd 38 (by kernel_rfl) 146 (by kernel_rfl)).1
                  have s147 : ρ (.tmp 147) = .int .i64 (m : Int) := (hd 39 (by kernel_rfl) 147 (by kernel_rfl)).2.trans (hd 39 (by kernel_rfl) 147 (by kernel_rfl)).1
                  refine Or.inl ⟨(hd 36 (by kernel_rfl) 144 (by kernel_rfl)).1, ?_⟩
                  clear hd hs
                  refine outcome_value (v := .bool false) ?_ ⟨rfl, hB, hrefl w⟩
                  simp [go_sem, hc, hf, s146, s147]
                refine And.intro ?_ ?_
                · intro V ρ w hB hc hf hd hs
                  have s144 : ρ (.tmp 144) = .bool false := (hd 36 (by kernel_rfl) 144 (by kernel_rfl)).2.trans (hd 36 (by kernel_rfl) 144 (by kernel_rfl)).1
                  have s148 : ρ (.tmp 148) = .bool false := (hd 40 (by kernel_rfl) 148 (by kernel_rfl)).2.trans (hd 40 (by kernel_rfl) 148 (by kernel_rfl)).1
                  clear hd hs
                  refine outcome_value (v := .bool false) ?_ ⟨rfl, hB, hrefl w⟩
                  simp [go_sem, hc, hf, s144, s148]
                refine And.intro ?_ ?_
                · intro V ρ w hB hc hf hd hs
                  have s149 : ρ (.tmp 149) = .bool false := (hd 41 (by kernel_rfl) 149 (by kernel_rfl)).2.trans (hd 41 (by kernel_rfl) 149 (by kernel_rfl)).1
                  clear hd hs
                  rw [BigFrame.run_move (.tmp 149) rfl]
                  exact ⟨s149, hB, hrefl w⟩
                refine And.intro ?_ ?_
                · intro V ρ w hB hc hf hd hs
                  have s11 : ρ (.tmp 11) = .pointer (some ⟨c, 0, none⟩) := hs 11 (by kernel_rfl)
                  refine Or.inl ⟨(hd 42 (by kernel_rfl) 150 (by kernel_rfl)).1, ?_⟩
                  clear hd hs
                  rw [BigFrame.run_move (.tmp 11) rfl]
                  exact ⟨s11, hB, hrefl w⟩
                refine And.intro ?_ ?_
                · intro V ρ w hB hc hf hd hs
                  have s151 : ρ (.tmp 151) = .pointer (some ⟨c, 0, none⟩) := (hd 43 (by kernel_rfl) 151 (by kernel_rfl)).2.trans (hd 43 (by kernel_rfl) 151 (by kernel_rfl)).1
                  refine Or.inl ⟨(hd 42 (by kernel_rfl) 150 (by kernel_rfl)).1, ?_⟩
                  clear hd hs
                  refine outcome_enter (w := w) (f := 16) (args := #[.pointer (some ⟨c, 0, none⟩)]) (by simp [go_sem, hc, hf, s151]) ?_
                  refine (bytes_c (Fn.below S9.out.C hB (Fn.lt S9.out.C))).mono ?_
                  rintro e w' ⟨rfl, F, Lx⟩
                  exact ⟨_, rfl, Eq.mpr (if_neg (by decide)) (Eq.mpr (if_neg (by decide)) (Eq.mpr (if_pos rfl) ⟨_, rfl, F.lt, bts_of_fn F⟩)), hB.trans (Lx.mono hB.size), Lx⟩
                refine And.intro ?_ ?_
                · intro V ρ w hB hc hf hd hs
                  obtain ⟨f152, s152⟩ := hd 44 (by kernel_rfl) 152 (by kernel_rfl)
                  refine Or.inl ⟨(hd 42 (by kernel_rfl) 150 (by kernel_rfl)).1, ?_⟩
                  clear hd hs
                  obtain ⟨g', hv, hg, hbt⟩ := (Eq.mp (if_pos rfl) (Eq.mp (if_neg (by decide)) (Eq.mp (if_neg (by decide)) f152)))
                  rw [hv] at s152
                  exact outcome_value (v := .string (strOf (bt X) 64)) (run_conv rfl s152 (conv_bts hbt)) ⟨rfl, hB, hrefl w⟩
                refine And.intro ?_ ?_
                · intro V ρ w hB hc hf hd hs
                  have s12 : ρ (.tmp 12) = .string (strOf (bt X) 64) := hs 12 (by kernel_rfl)
                  refine Or.inl ⟨(hd 42 (by kernel_rfl) 150 (by kernel_rfl)).1, ?_⟩
                  clear hd hs
                  rw [BigFrame.run_move (.tmp 12) rfl]
                  exact ⟨s12, hB, hrefl w⟩
                refine And.intro ?_ ?_
                · intro V ρ w hB hc hf hd hs
                  have s153 : ρ (.tmp 153) = .string (strOf (bt X) 64) := (hd 45 (by kernel_rfl) 153 (by kernel_rfl)).2.trans (hd 45 (by kernel_rfl) 153 (by kernel_rfl)).1
                  have s154 : ρ (.tmp 154) = .string (strOf (bt X) 64) := (hd 46 (by kernel_rfl) 154 (by kernel_rfl)).2.trans (hd 46 (by kernel_rfl) 154 (by kernel_rfl)).1
                  refine Or.inl ⟨(hd 42 (by kernel_rfl) 150 (by kernel_rfl)).1, ?_⟩
                  clear hd hs
                  refine outcome_value (v := .bool false) ?_ ⟨rfl, hB, hrefl w⟩
                  simp [go_sem, hc, hf, s153, s154]
                refine And.intro ?_ ?_
                · intro V ρ w hB hc hf hd hs
                  have s150 : ρ (.tmp 150) = .bool false := (hd 42 (by kernel_rfl) 150 (by kernel_rfl)).2.trans (hd 42 (by kernel_rfl) 150 (by kernel_rfl)).1
                  have s155 : ρ (.tmp 155) = .bool false := (hd 47 (by kernel_rfl) 155 (by kernel_rfl)).2.trans (hd 47 (by kernel_rfl) 155 (by kernel_rfl)).1
                  clear hd hs
                  refine outcome_value (v := .bool false) ?_ ⟨rfl, hB, hrefl w⟩
                  simp [go_sem, hc, hf, s150, s155]
                exact trivial
              case hend =>
                intro V w10 hB10 hV
                have vl : V 48 = .bool false := hV 48 (by decide)
                simp only [lexF, Act.put, List.setIfInBounds_toArray, List.set_cons_zero, List.set_cons_succ, vl]
                clear hV
                go_wp2
                go_roundg (len - (i + 1))
                case measure => omega
                case rel => exact ⟨i + 1, X1, (fun j => U j || decide (j < p')), rb1, rc1, by go_num, rfl, by omega, hid (Fn.below S9.out.M hB10 (Fn.lt S9.out.M)), HG9, HL9, hid (S9.out.R.of_block (hB10.block _ S9.out.R.lt)), hid (S9.out.V.below hB10), HUX, hid (S9.out.L.trans (hB10.mono S9.out.L.size))⟩
        · by_cases hK2 : K = 2
          · subst hK2
            clear hK1
            by_cases hno : A < 4 ∨ m ≤ A ∨ used X A = false
            · skip
              have hl8 : (0 : Nat) ≤ 8 := by omega
              have HNO := hid hno
              have HNO' := hid (show A < 4 ∨ m ≤ A ∨ U A = false from by
                by_cases h : m ≤ A
                · exact Or.inr (Or.inl h)
                · rcases hno with h1 | h1 | h1
                  · exact Or.inl h1
                  · exact absurd h1 h
                  · exact Or.inr (Or.inr (by rw [HUX0.out A (by omega)]; exact h1)))
              clear hno
              go_upto_region 24 with first
                | (go_at_call 14; refine (give_no SD.out.M A hA hm2 HNO.out).mono ?_; rintro e w' ⟨rfl, rfl⟩)
                | (go_at_call 18; refine (rgive_no SD.out.V hm2 A hA HNO'.out).mono ?_; rintro e we ⟨rfl, Lx⟩; have SE := hid (SD.out.below Lx); have cre := SE.out.R.cellv (i := 0) rfl; have fre := SE.out.R.frozen 0; clear Lx)
              have S9 := hid (SE.out.set hm16 (SE.out.V) (by omega) hsr hcr hr7w)
              obtain ⟨w9, hw9⟩ : ∃ w9, w9 = we.setCell ⟨r7, 0, none⟩ (.slice (some ⟨rb, 0, none⟩) m rc) := ⟨_, rfl⟩
              rw [← hw9] at S9 ⊢
              clear hw9
              have HG9 := HG
              have HL9 := HLB
              have HUX := HUX0
              have hkx : ([] : List Nat).length = 0 := rfl
              have R13 := hid (Row32.nil w9 (some ⟨x13, 0, none⟩))
              have R14 := hid (Row32.nil w9 (some ⟨x13 + 1, 0, none⟩))
              clear e0 e1 e2 e3 cr cre fre hku' UD SD SE HG HLB HUX0 TD

              obtain ⟨u, hu1, hu2⟩ := used_both (b := b) hm2 HUX.out N
              have HU1 := hid hu1
              have HU2 := hid hu2
              clear hu1 hu2
              have hrefl := HRF.out
              refine region_rel (n := 158) (B := fun w' => Below w9.heap.size w9 w') (E := fun w w' => Below w.heap.size w w') (φ := (fun (kq : Nat) (v : Value) (w : World) => if kq = 29 then ∃ g : Nat, v = .slice (some ⟨g, 0, none⟩) 64 64 ∧ g < w.heap.size ∧ Bts w g 0 64 (bt X) else if kq = 32 then ∃ g : Nat, v = .slice (some ⟨g, 0, none⟩) 64 64 ∧ g < w.heap.size ∧ Bts w g 0 64 (rbt U m) else if kq = 44 then ∃ g : Nat, v = .slice (some ⟨g, 0, none⟩) 64 64 ∧ g < w.heap.size ∧ Bts w g 0 64 (bt X) else v = ([.int .i64 1, .int .i64 1, .bool false, .bool false, .slice (some ⟨x13, 0, none⟩) 0 0, .slice (some ⟨x13 + 1, 0, none⟩) 0 0, .bool true, .bool false, .bool false, .bool false, .pointer (some ⟨b, 0, none⟩), .pointer (some ⟨z10, 1, none⟩), .int .i64 N, .bool u, .agg #[.slice (some ⟨rb, 0, none⟩) m rc], .pointer (some ⟨z10, 1, none⟩), .int .i64 N, .bool u, .bool false, .bool false, .bool false, .pointer (some ⟨b, 0, none⟩), .int .i64 ((m : Int) - (cnt (used X) m : Nat)), .agg #[.slice (some ⟨rb, 0, none⟩) m rc], .int .i64 ((m : Int) - (cnt (used X) m : Nat)), .bool false, .bool false, .bool false, .pointer (some ⟨b, 0, none⟩), undef, .string (strOf (bt X) 64), .agg #[.slice (some ⟨rb, 0, none⟩) m rc], undef, .string (strOf (bt X) 64), .bool false, .bool false, .bool false, .pointer (some ⟨b, 0, none⟩), .int .i64 (m : Int), .int .i64 (m : Int), .bool false, .bool false, .bool false, .pointer (some ⟨c, 0, none⟩), undef, .string (strOf (bt X) 64), .string (strOf (bt X) 64), .bool false, .bool false] : List Value).getD kq undef)) (by kernel_rfl) (by kernel_rfl) (by kernel_rfl) (by kernel_rfl) ?mono hrefl ((Below.refl _ _).drew) ?hop ?hend
              case mono =>
                intro j v w w' h hE
                dsimp only at h
                split at h
                · rename_i hj
                  subst hj
                  obtain ⟨g, h1, h2, h3⟩ := h
                  exact Eq.mpr (if_pos rfl) ⟨g, h1, Nat.lt_of_lt_of_le h2 hE.size, h3.below h2 hE⟩
                · rename_i hj
                  rw [if_neg hj]
                  split at h
                  · rename_i hj
                    subst hj
                    obtain ⟨g, h1, h2, h3⟩ := h
                    exact Eq.mpr (if_pos rfl) ⟨g, h1, Nat.lt_of_lt_of_le h2 hE.size, h3.below h2 hE⟩
                  · rename_i hj
                    rw [if_neg hj]
                    split at h
                    · rename_i hj
                      subst hj
                      obtain ⟨g, h1, h2, h3⟩ := h
                      exact Eq.mpr (if_pos rfl) ⟨g, h1, Nat.lt_of_lt_of_le h2 hE.size, h3.below h2 hE⟩
                    · rename_i hj
                      rw [if_neg hj]
                      exact h
              case hop =>
                refine And.intro ?_ ?_
                · intro V ρ w hB hc hf hd hs
                  have s15 : ρ (.tmp 15) = .int .i64 1 := hs 15 (by kernel_rfl)
                  clear hd hs
                  rw [BigFrame.run_move (.tmp 15) rfl]
                  exact ⟨s15, hB, hrefl w⟩
                refine And.intro ?_ ?_
                · intro V ρ w hB hc hf hd hs
                  have s16 : ρ (.tmp 16) = .int .i64 1 := hs 16 (by kernel_rfl)
                  clear hd hs
                  rw [BigFrame.run_move (.tmp 16) rfl]
                  exact ⟨s16, hB, hrefl w⟩
                refine And.intro ?_ ?_
                · intro V ρ w hB hc hf hd hs
                  have s108 : ρ (.tmp 108) = .int .i64 1 := (hd 0 (by kernel_rfl) 108 (by kernel_rfl)).2.trans (hd 0 (by kernel_rfl) 108 (by kernel_rfl)).1
                  have s109 : ρ (.tmp 109) = .int .i64 1 := (hd 1 (by kernel_rfl) 109 (by kernel_rfl)).2.trans (hd 1 (by kernel_rfl) 109 (by kernel_rfl)).1
                  clear hd hs
                  refine outcome_value (v := .bool false) ?_ ⟨rfl, hB, hrefl w⟩
                  simp [go_sem, hc, hf, s108, s109]
                refine And.intro ?_ ?_
                · intro V ρ w hB hc hf hd hs
                  have s110 : ρ (.tmp 110) = .bool false := (hd 2 (by kernel_rfl) 110 (by kernel_rfl)).2.trans (hd 2 (by kernel_rfl) 110 (by kernel_rfl)).1
                  clear hd hs
                  rw [BigFrame.run_move (.tmp 110) rfl]
                  exact ⟨s110, hB, hrefl w⟩
                refine And.intro ?_ ?_
                · intro V ρ w hB hc hf hd hs
                  have s13 : ρ (.tmp 13) = .slice (some ⟨x13, 0, none⟩) 0 0 := hs 13 (by kernel_rfl)
                  refine Or.inl ⟨(hd 3 (by kernel_rfl) 111 (by kernel_rfl)).1, ?_⟩
                  clear hd hs
                  rw [BigFrame.run_move (.tmp 13) rfl]
                  exact ⟨s13, hB, hrefl w⟩
                refine And.intro ?_ ?_
                · intro V ρ w hB hc hf hd hs
                  have s14 : ρ (.tmp 14) = .slice (some ⟨x13 + 1, 0, none⟩) 0 0 := hs 14 (by kernel_rfl)
                  refine Or.inl ⟨(hd 3 (by kernel_rfl) 111 (by kernel_rfl)).1, ?_⟩
                  clear hd hs
                  rw [BigFrame.run_move (.tmp 14) rfl]
                  exact ⟨s14, hB, hrefl w⟩
                refine And.intro ?_ ?_
                · intro V ρ w hB hc hf hd hs
                  have s112 : ρ (.tmp 112) = .slice (some ⟨x13, 0, none⟩) 0 0 := (hd 4 (by kernel_rfl) 112 (by kernel_rfl)).2.trans (hd 4 (by kernel_rfl) 112 (by kernel_rfl)).1
                  have s113 : ρ (.tmp 113) = .slice (some ⟨x13 + 1, 0, none⟩) 0 0 := (hd 5 (by kernel_rfl) 113 (by kernel_rfl)).2.trans (hd 5 (by kernel_rfl) 113 (by kernel_rfl)).1
                  refine Or.inl ⟨(hd 3 (by kernel_rfl) 111 (by kernel_rfl)).1, ?_⟩
                  clear hd hs
                  refine outcome_enter (w := w) (f := 21) (args := #[.slice (some ⟨x13, 0, none⟩) 0 0, .slice (some ⟨x13 + 1, 0, none⟩) 0 0]) (by simp [go_sem, hc, hf, s112, s113]) ?_
                  refine (same_n hkx _ _ hl8 (R13.out.below hB) (R14.out.below hB)).mono ?_
                  rintro e w' ⟨rfl, Lx⟩
                  exact ⟨_, rfl, rfl, hB.trans (Lx.mono hB.size), Lx⟩
                refine And.intro ?_ ?_
                · intro V ρ w hB hc hf hd hs
                  have s114 : ρ (.tmp 114) = .bool true := (hd 6 (by kernel_rfl) 114 (by kernel_rfl)).2.trans (hd 6 (by kernel_rfl) 114 (by kernel_rfl)).1
                  refine Or.inl ⟨(hd 3 (by kernel_rfl) 111 (by kernel_rfl)).1, ?_⟩
                  clear hd hs
                  refine outcome_value (v := .bool false) ?_ ⟨rfl, hB, hrefl w⟩
                  simp [go_sem, hc, hf, s114]
                refine And.intro ?_ ?_
                · intro V ρ w hB hc hf hd hs
                  have s111 : ρ (.tmp 111) = .bool false := (hd 3 (by kernel_rfl) 111 (by kernel_rfl)).2.trans (hd 3 (by kernel_rfl) 111 (by kernel_rfl)).1
                  have s115 : ρ (.tmp 115) = .bool false := (hd 7 (by kernel_rfl) 115 (by kernel_rfl)).2.trans (hd 7 (by kernel_rfl) 115 (by kernel_rfl)).1
                  clear hd hs
                  refine outcome_value (v := .bool false) ?_ ⟨rfl, hB, hrefl w⟩
                  simp [go_sem, hc, hf, s111, s115]
                refine And.intro ?_ ?_
                · intro V ρ w hB hc hf hd hs
                  have s116 : ρ (.tmp 116) = .bool false := (hd 8 (by kernel_rfl) 116 (by kernel_rfl)).2.trans (hd 8 (by kernel_rfl) 116 (by kernel_rfl)).1
                  clear hd hs
                  rw [BigFrame.run_move (.tmp 116) rfl]
                  exact ⟨s116, hB, hrefl w⟩
                refine And.intro ?_ ?_
                · intro V ρ w hB hc hf hd hs
                  have s5 : ρ (.tmp 5) = .pointer (some ⟨b, 0, none⟩) := hs 5 (by kernel_rfl)
                  refine Or.inl ⟨(hd 9 (by kernel_rfl) 117 (by kernel_rfl)).1, ?_⟩
                  clear hd hs
                  rw [BigFrame.run_move (.tmp 5) rfl]
                  exact ⟨s5, hB, hrefl w⟩
                refine And.intro ?_ ?_
                · intro V ρ w hB hc hf hd hs
                  have s10 : ρ (.tmp 10) = .pointer (some ⟨z10, 0, none⟩) := hs 10 (by kernel_rfl)
                  refine Or.inl ⟨(hd 9 (by kernel_rfl) 117 (by kernel_rfl)).1, ?_⟩
                  clear hd hs
                  refine outcome_value (v := .pointer (some ⟨z10, 1, none⟩)) ?_ ⟨rfl, hB, hrefl w⟩
                  simp [go_sem, hc, hf, s10]
                refine And.intro ?_ ?_
                · intro V ρ w hB hc hf hd hs
                  have s119 : ρ (.tmp 119) = .pointer (some ⟨z10, 1, none⟩) := (hd 11 (by kernel_rfl) 119 (by kernel_rfl)).2.trans (hd 11 (by kernel_rfl) 119 (by kernel_rfl)).1
                  refine Or.inl ⟨(hd 9 (by kernel_rfl) 117 (by kernel_rfl)).1, ?_⟩
                  clear hd hs
                  have cn : w.cell? ⟨z10, 1, none⟩ = some (.int .i64 N) := (hB.cell S9.out.A.lt).trans (S9.out.A.cellv rfl)
                  exact outcome_value (v := .int .i64 N) (by simp [go_sem, hc, hf, s119, cn]) ⟨rfl, hB, hrefl w⟩
                refine And.intro ?_ ?_
                · intro V ρ w hB hc hf hd hs
                  have s118 : ρ (.tmp 118) = .pointer (some ⟨b, 0, none⟩) := (hd 10 (by kernel_rfl) 118 (by kernel_rfl)).2.trans (hd 10 (by kernel_rfl) 118 (by kernel_rfl)).1
                  have s120 : ρ (.tmp 120) = .int .i64 N := (hd 12 (by kernel_rfl) 120 (by kernel_rfl)).2.trans (hd 12 (by kernel_rfl) 120 (by kernel_rfl)).1
                  refine Or.inl ⟨(hd 9 (by kernel_rfl) 117 (by kernel_rfl)).1, ?_⟩
                  clear hd hs
                  refine outcome_enter (w := w) (f := 13) (args := #[.pointer (some ⟨b, 0, none⟩), .int .i64 N]) (by simp [go_sem, hc, hf, s118, s120]) ?_
                  refine (HU1.out w (Fn.below S9.out.M hB (Fn.lt S9.out.M))).mono ?_
                  rintro e w' ⟨rfl, rfl⟩
                  exact ⟨_, rfl, rfl, hB, hrefl _⟩
                refine And.intro ?_ ?_
                · intro V ρ w hB hc hf hd hs
                  have s7 : ρ (.tmp 7) = .pointer (some ⟨r7, 0, none⟩) := hs 7 (by kernel_rfl)
                  refine Or.inl ⟨(hd 9 (by kernel_rfl) 117 (by kernel_rfl)).1, ?_⟩
                  clear hd hs
                  have cm : w.cell? ⟨r7, 0, none⟩ = some (.slice (some ⟨rb, 0, none⟩) m rc) := (hB.cell S9.out.R.lt).trans (S9.out.R.cellv rfl)
                  exact outcome_value (v := .agg #[.slice (some ⟨rb, 0, none⟩) m rc]) (by simp [go_sem, hc, hf, s7, cm]) ⟨rfl, hB, hrefl w⟩
                refine And.intro ?_ ?_
                · intro V ρ w hB hc hf hd hs
                  have s10 : ρ (.tmp 10) = .pointer (some ⟨z10, 0, none⟩) := hs 10 (by kernel_rfl)
                  refine Or.inl ⟨(hd 9 (by kernel_rfl) 117 (by kernel_rfl)).1, ?_⟩
                  clear hd hs
                  refine outcome_value (v := .pointer (some ⟨z10, 1, none⟩)) ?_ ⟨rfl, hB, hrefl w⟩
                  simp [go_sem, hc, hf, s10]
                refine And.intro ?_ ?_
                · intro V ρ w hB hc hf hd hs
                  have s123 : ρ (.tmp 123) = .pointer (some ⟨z10, 1, none⟩) := (hd 15 (by kernel_rfl) 123 (by kernel_rfl)).2.trans (hd 15 (by kernel_rfl) 123 (by kernel_rfl)).1
                  refine Or.inl ⟨(hd 9 (by kernel_rfl) 117 (by kernel_rfl)).1, ?_⟩
                  clear hd hs
                  have cn : w.cell? ⟨z10, 1, none⟩ = some (.int .i64 N) := (hB.cell S9.out.A.lt).trans (S9.out.A.cellv rfl)
                  exact outcome_value (v := .int .i64 N) (by simp [go_sem, hc, hf, s123, cn]) ⟨rfl, hB, hrefl w⟩
                refine And.intro ?_ ?_
                · intro V ρ w hB hc hf hd hs
                  have s122 : ρ (.tmp 122) = .agg #[.slice (some ⟨rb, 0, none⟩) m rc] := (hd 14 (by kernel_rfl) 122 (by kernel_rfl)).2.trans (hd 14 (by kernel_rfl) 122 (by kernel_rfl)).1
                  have s124 : ρ (.tmp 124) = .int .i64 N := (hd 16 (by kernel_rfl) 124 (by kernel_rfl)).2.trans (hd 16 (by kernel_rfl) 124 (by kernel_rfl)).1
                  refine Or.inl ⟨(hd 9 (by kernel_rfl) 117 (by kernel_rfl)).1, ?_⟩
                  clear hd hs
                  refine outcome_enter (w := w) (f := 22) (args := #[.agg #[.slice (some ⟨rb, 0, none⟩) m rc], .int .i64 N]) (by simp [go_sem, hc, hf, s122, s124]) ?_
                  refine (HU2.out w _ (S9.out.V.below hB)).mono ?_
                  rintro e w' ⟨rfl, Lx⟩
                  exact ⟨_, rfl, rfl, hB.trans (Lx.mono hB.size), Lx⟩
                refine And.intro ?_ ?_
                · intro V ρ w hB hc hf hd hs
                  have s121 : ρ (.tmp 121) = .bool u := (hd 13 (by kernel_rfl) 121 (by kernel_rfl)).2.trans (hd 13 (by kernel_rfl) 121 (by kernel_rfl)).1
                  have s125 : ρ (.tmp 125) = .bool u := (hd 17 (by kernel_rfl) 125 (by kernel_rfl)).2.trans (hd 17 (by kernel_rfl) 125 (by kernel_rfl)).1
                  refine Or.inl ⟨(hd 9 (by kernel_rfl) 117 (by kernel_rfl)).1, ?_⟩
                  clear hd hs
                  refine outcome_value (v := .bool false) ?_ ⟨rfl, hB, hrefl w⟩
                  simp [go_sem, hc, hf, s121, s125]
                refine And.intro ?_ ?_
                · intro V ρ w hB hc hf hd hs
                  have s117 : ρ (.tmp 117) = .bool false := (hd 9 (by kernel_rfl) 117 (by kernel_rfl)).2.trans (hd 9 (by kernel_rfl) 117 (by kernel_rfl)).1
                  have s126 : ρ (.tmp 126) = .bool false := (hd 18 (by kernel_rfl) 126 (by kernel_rfl)).2.trans (hd 18 (by kernel_rfl) 126 (by kernel_rfl)).1
                  clear hd hs
                  refine outcome_value (v := .bool false) ?_ ⟨rfl, hB, hrefl w⟩
                  simp [go_sem, hc, hf, s117, s126]
                refine And.intro ?_ ?_
                · intro V ρ w hB hc hf hd hs
                  have s127 : ρ (.tmp 127) = .bool false := (hd 19 (by kernel_rfl) 127 (by kernel_rfl)).2.trans (hd 19 (by kernel_rfl) 127 (by kernel_rfl)).1
                  clear hd hs
                  rw [BigFrame.run_move (.tmp 127) rfl]
                  exact ⟨s127, hB, hrefl w⟩
                refine And.intro ?_ ?_
                · intro V ρ w hB hc hf hd hs
                  have s5 : ρ (.tmp 5) = .pointer (some ⟨b, 0, none⟩) := hs 5 (by kernel_rfl)
                  refine Or.inl ⟨(hd 20 (by kernel_rfl) 128 (by kernel_rfl)).1, ?_⟩
                  clear hd hs
                  rw [BigFrame.run_move (.tmp 5) rfl]
                  exact ⟨s5, hB, hrefl w⟩
                refine And.intro ?_ ?_
                · intro V ρ w hB hc hf hd hs
                  have s129 : ρ (.tmp 129) = .pointer (some ⟨b, 0, none⟩) := (hd 21 (by kernel_rfl) 129 (by kernel_rfl)).2.trans (hd 21 (by kernel_rfl) 129 (by kernel_rfl)).1
                  refine Or.inl ⟨(hd 20 (by kernel_rfl) 128 (by kernel_rfl)).1, ?_⟩
                  clear hd hs
                  refine outcome_enter (w := w) (f := 11) (args := #[.pointer (some ⟨b, 0, none⟩)]) (by simp [go_sem, hc, hf, s129]) ?_
                  refine (free_c (Fn.below S9.out.M hB (Fn.lt S9.out.M)) hm2 HG9.out).mono ?_
                  rintro e w' ⟨rfl, rfl⟩
                  exact ⟨_, rfl, rfl, hB, hrefl _⟩
                refine And.intro ?_ ?_
                · intro V ρ w hB hc hf hd hs
                  have s7 : ρ (.tmp 7) = .pointer (some ⟨r7, 0, none⟩) := hs 7 (by kernel_rfl)
                  refine Or.inl ⟨(hd 20 (by kernel_rfl) 128 (by kernel_rfl)).1, ?_⟩
                  clear hd hs
                  have cm : w.cell? ⟨r7, 0, none⟩ = some (.slice (some ⟨rb, 0, none⟩) m rc) := (hB.cell S9.out.R.lt).trans (S9.out.R.cellv rfl)
                  exact outcome_value (v := .agg #[.slice (some ⟨rb, 0, none⟩) m rc]) (by simp [go_sem, hc, hf, s7, cm]) ⟨rfl, hB, hrefl w⟩
                refine And.intro ?_ ?_
                · intro V ρ w hB hc hf hd hs
                  have s131 : ρ (.tmp 131) = .agg #[.slice (some ⟨rb, 0, none⟩) m rc] := (hd 23 (by kernel_rfl) 131 (by kernel_rfl)).2.trans (hd 23 (by kernel_rfl) 131 (by kernel_rfl)).1
                  refine Or.inl ⟨(hd 20 (by kernel_rfl) 128 (by kernel_rfl)).1, ?_⟩
                  clear hd hs
                  refine outcome_enter (w := w) (f := 23) (args := #[.agg #[.slice (some ⟨rb, 0, none⟩) m rc]]) (by simp [go_sem, hc, hf, s131]) ?_
                  refine (rfree_c (S9.out.V.below hB) hm2).mono ?_
                  rintro e w' ⟨rfl, Lx⟩
                  exact ⟨_, rfl, by rw [cnt_congr HUX.out]; rfl, hB.trans (Lx.mono hB.size), Lx⟩
                refine And.intro ?_ ?_
                · intro V ρ w hB hc hf hd hs
                  have s130 : ρ (.tmp 130) = .int .i64 ((m : Int) - (cnt (used X) m : Nat)) := (hd 22 (by kernel_rfl) 130 (by kernel_rfl)).2.trans (hd 22 (by kernel_rfl) 130 (by kernel_rfl)).1
                  have s132 : ρ (.tmp 132) = .int .i64 ((m : Int) - (cnt (used X) m : Nat)) := (hd 24 (by kernel_rfl) 132 (by kernel_rfl)).2.trans (hd 24 (by kernel_rfl) 132 (by kernel_rfl)).1
                  refine Or.inl ⟨(hd 20 (by kernel_rfl) 128 (by kernel_rfl)).1, ?_⟩
                  clear hd hs
                  refine outcome_value (v := .bool false) ?_ ⟨rfl, hB, hrefl w⟩
                  simp [go_sem, hc, hf, s130, s132]
                refine And.intro ?_ ?_
                · intro V ρ w hB hc hf hd hs
                  have s128 : ρ (.tmp 128) = .bool false := (hd 20 (by kernel_rfl) 128 (by kernel_rfl)).2.trans (hd 20 (by kernel_rfl) 128 (by kernel_rfl)).1
                  have s133 : ρ (.tmp 133) = .bool false := (hd 25 (by kernel_rfl) 133 (by kernel_rfl)).2.trans (hd 25 (by kernel_rfl) 133 (by kernel_rfl)).1
                  clear hd hs
                  refine outcome_value (v := .bool false) ?_ ⟨rfl, hB, hrefl w⟩
                  simp [go_sem, hc, hf, s128, s133]
                refine And.intro ?_ ?_
                · intro V ρ w hB hc hf hd hs
                  have s134 : ρ (.tmp 134) = .bool false := (hd 26 (by kernel_rfl) 134 (by kernel_rfl)).2.trans (hd 26 (by kernel_rfl) 134 (by kernel_rfl)).1
                  clear hd hs
                  rw [BigFrame.run_move (.tmp 134) rfl]
                  exact ⟨s134, hB, hrefl w⟩
                refine And.intro ?_ ?_
                · intro V ρ w hB hc hf hd hs
                  have s5 : ρ (.tmp 5) = .pointer (some ⟨b, 0, none⟩) := hs 5 (by kernel_rfl)
                  refine Or.inl ⟨(hd 27 (by kernel_rfl) 135 (by kernel_rfl)).1, ?_⟩
                  clear hd hs
                  rw [BigFrame.run_move (.tmp 5) rfl]
                  exact ⟨s5, hB, hrefl w⟩
                refine And.intro ?_ ?_
                · intro V ρ w hB hc hf hd hs
                  have s136 : ρ (.tmp 136) = .pointer (some ⟨b, 0, none⟩) := (hd 28 (by kernel_rfl) 136 (by kernel_rfl)).2.trans (hd 28 (by kernel_rfl) 136 (by kernel_rfl)).1
                  refine Or.inl ⟨(hd 27 (by kernel_rfl) 135 (by kernel_rfl)).1, ?_⟩
                  clear hd hs
                  refine outcome_enter (w := w) (f := 16) (args := #[.pointer (some ⟨b, 0, none⟩)]) (by simp [go_sem, hc, hf, s136]) ?_
                  refine (bytes_c (Fn.below S9.out.M hB (Fn.lt S9.out.M))).mono ?_
                  rintro e w' ⟨rfl, F, Lx⟩
                  exact ⟨_, rfl, Eq.mpr (if_pos rfl) ⟨_, rfl, F.lt, bts_of_fn F⟩, hB.trans (Lx.mono hB.size), Lx⟩
                refine And.intro ?_ ?_
                · intro V ρ w hB hc hf hd hs
                  obtain ⟨f137, s137⟩ := hd 29 (by kernel_rfl) 137 (by kernel_rfl)
                  refine Or.inl ⟨(hd 27 (by kernel_rfl) 135 (by kernel_rfl)).1, ?_⟩
                  clear hd hs
                  obtain ⟨g', hv, hg, hbt⟩ := (Eq.mp (if_pos rfl) f137)
                  rw [hv] at s137
                  exact outcome_value (v := .string (strOf (bt X) 64)) (run_conv rfl s137 (conv_bts hbt)) ⟨rfl, hB, hrefl w⟩
                refine And.intro ?_ ?_
                · intro V ρ w hB hc hf hd hs
                  have s7 : ρ (.tmp 7) = .pointer (some ⟨r7, 0, none⟩) := hs 7 (by kernel_rfl)
                  refine Or.inl ⟨(hd 27 (by kernel_rfl) 135 (by kernel_rfl)).1, ?_⟩
                  clear hd hs
                  have cm : w.cell? ⟨r7, 0, none⟩ = some (.slice (some ⟨rb, 0, none⟩) m rc) := (hB.cell S9.out.R.lt).trans (S9.out.R.cellv rfl)
                  exact outcome_value (v := .agg #[.slice (some ⟨rb, 0, none⟩) m rc]) (by simp [go_sem, hc, hf, s7, cm]) ⟨rfl, hB, hrefl w⟩
                refine And.intro ?_ ?_
                · intro V ρ w hB hc hf hd hs
                  have s139 : ρ (.tmp 139) = .agg #[.slice (some ⟨rb, 0, none⟩) m rc] := (hd 31 (by kernel_rfl) 139 (by kernel_rfl)).2.trans (hd 31 (by kernel_rfl) 139 (by kernel_rfl)).1
                  refine Or.inl ⟨(hd 27 (by kernel_rfl) 135 (by kernel_rfl)).1, ?_⟩
                  clear hd hs
                  refine outcome_enter (w := w) (f := 24) (args := #[.agg #[.slice (some ⟨rb, 0, none⟩) m rc]]) (by simp [go_sem, hc, hf, s139]) ?_
                  refine (rbytes_c (S9.out.V.below hB) hm2).mono ?_
                  rintro e w' ⟨g9, rfl, F, Lx⟩
                  exact ⟨_, rfl, Eq.mpr (if_neg (by decide)) (Eq.mpr (if_pos rfl) ⟨_, rfl, F.lt, bts_of_fn F⟩), hB.trans (Lx.mono hB.size), Lx⟩
                refine And.intro ?_ ?_
                · intro V ρ w hB hc hf hd hs
                  obtain ⟨f140, s140⟩ := hd 32 (by kernel_rfl) 140 (by kernel_rfl)
                  refine Or.inl ⟨(hd 27 (by kernel_rfl) 135 (by kernel_rfl)).1, ?_⟩
                  clear hd hs
                  obtain ⟨g', hv, hg, hbt⟩ := (Eq.mp (if_pos rfl) (Eq.mp (if_neg (by decide)) f140))
                  rw [hv] at s140
                  exact outcome_value (v := .string (strOf (bt X) 64)) (run_conv rfl s140 ((conv_bts hbt).trans (by rw [strOf_congr (n := 64) (fun j hj => rbt_bt HG9.out HUX.out j hj)]))) ⟨rfl, hB, hrefl w⟩
                refine And.intro ?_ ?_
                · intro V ρ w hB hc hf hd hs
                  have s138 : ρ (.tmp 138) = .string (strOf (bt X) 64) := (hd 30 (by kernel_rfl) 138 (by kernel_rfl)).2.trans (hd 30 (by kernel_rfl) 138 (by kernel_rfl)).1
                  have s141 : ρ (.tmp 141) = .string (strOf (bt X) 64) := (hd 33 (by kernel_rfl) 141 (by kernel_rfl)).2.trans (hd 33 (by kernel_rfl) 141 (by kernel_rfl)).1
                  refine Or.inl ⟨(hd 27 (by kernel_rfl) 135 (by kernel_rfl)).1, ?_⟩
                  clear hd hs
                  refine outcome_value (v := .bool false) ?_ ⟨rfl, hB, hrefl w⟩
                  simp [go_sem, hc, hf, s138, s141]
                refine And.intro ?_ ?_
                · intro V ρ w hB hc hf hd hs
                  have s135 : ρ (.tmp 135) = .bool false := (hd 27 (by kernel_rfl) 135 (by kernel_rfl)).2.trans (hd 27 (by kernel_rfl) 135 (by kernel_rfl)).1
                  have s142 : ρ (.tmp 142) = .bool false := (hd 34 (by kernel_rfl) 142 (by kernel_rfl)).2.trans (hd 34 (by kernel_rfl) 142 (by kernel_rfl)).1
                  clear hd hs
                  refine outcome_value (v := .bool false) ?_ ⟨rfl, hB, hrefl w⟩
                  simp [go_sem, hc, hf, s135, s142]
                refine And.intro ?_ ?_
                · intro V ρ w hB hc hf hd hs
                  have s143 : ρ (.tmp 143) = .bool false := (hd 35 (by kernel_rfl) 143 (by kernel_rfl)).2.trans (hd 35 (by kernel_rfl) 143 (by kernel_rfl)).1
                  clear hd hs
                  rw [BigFrame.run_move (.tmp 143) rfl]
                  exact ⟨s143, hB, hrefl w⟩
                refine And.intro ?_ ?_
                · intro V ρ w hB hc hf hd hs
                  have s5 : ρ (.tmp 5) = .pointer (some ⟨b, 0, none⟩) := hs 5 (by kernel_rfl)
                  refine Or.inl ⟨(hd 36 (by kernel_rfl) 144 (by kernel_rfl)).1, ?_⟩
                  clear hd hs
                  rw [BigFrame.run_move (.tmp 5) rfl]
                  exact ⟨s5, hB, hrefl w⟩
                refine And.intro ?_ ?_
                · intro V ρ w hB hc hf hd hs
                  have s145 : ρ (.tmp 145) = .pointer (some ⟨b, 0, none⟩) := (hd 37 (by kernel_rfl) 145 (by kernel_rfl)).2.trans (hd 37 (by kernel_rfl) 145 (by kernel_rfl)).1
                  refine Or.inl ⟨(hd 36 (by kernel_rfl) 144 (by kernel_rfl)).1, ?_⟩
                  clear hd hs
                  refine outcome_enter (w := w) (f := 25) (args := #[.pointer (some ⟨b, 0, none⟩)]) (by simp [go_sem, hc, hf, s145]) ?_
                  refine (len_c (Fn.below S9.out.M hB (Fn.lt S9.out.M))).mono ?_
                  rintro e w' ⟨rfl, rfl⟩
                  exact ⟨_, rfl, rfl, hB, hrefl _⟩
                refine And.intro ?_ ?_
                · intro V ρ w hB hc hf hd hs
                  have s0 : ρ (.tmp 0) = .int .i64 (m : Int) := hs 0 (by kernel_rfl)
                  refine Or.inl ⟨(hd 36 (by kernel_rfl) 144 (by kernel_rfl)).1, ?_⟩
                  clear hd hs
                  rw [BigFrame.run_move (.tmp 0) rfl]
                  exact ⟨s0, hB, hrefl w⟩
                refine And.intro ?_ ?_
                · intro V ρ w hB hc hf hd hs
                  have s146 : ρ (.tmp 146) = .int .i64 (m : Int) := (hd 38 (by kernel_rfl) 146 (by kernel_rfl)).2.trans (hd 38 (by kernel_rfl) 146 (by kernel_rfl)).1
                  have s147 : ρ (.tmp 147) = .int .i64 (m : Int) := (hd 39 (by kernel_rfl) 147 (by kernel_rfl)).2.trans (hd 39 (by kernel_rfl) 147 (by kernel_rfl)).1
                  refine Or.inl ⟨(hd 36 (by kernel_rfl) 144 (by kernel_rfl)).1, ?_⟩
                  clear hd hs
                  refine outcome_value (v := .bool false) ?_ ⟨rfl, hB, hrefl w⟩
                  simp [go_sem, hc, hf, s146, s147]
                refine And.intro ?_ ?_
                · intro V ρ w hB hc hf hd hs
                  have s144 : ρ (.tmp 144) = .bool false := (hd 36 (by kernel_rfl) 144 (by kernel_rfl)).2.trans (hd 36 (by kernel_rfl) 144 (by kernel_rfl)).1
                  have s148 : ρ (.tmp 148) = .bool false := (hd 40 (by kernel_rfl) 148 (by kernel_rfl)).2.trans (hd 40 (by kernel_rfl) 148 (by kernel_rfl)).1
                  clear hd hs
                  refine outcome_value (v := .bool false) ?_ ⟨rfl, hB, hrefl w⟩
                  simp [go_sem, hc, hf, s144, s148]
                refine And.intro ?_ ?_
                · intro V ρ w hB hc hf hd hs
                  have s149 : ρ (.tmp 149) = .bool false := (hd 41 (by kernel_rfl) 149 (by kernel_rfl)).2.trans (hd 41 (by kernel_rfl) 149 (by kernel_rfl)).1
                  clear hd hs
                  rw [BigFrame.run_move (.tmp 149) rfl]
                  exact ⟨s149, hB, hrefl w⟩
                refine And.intro ?_ ?_
                · intro V ρ w hB hc hf hd hs
                  have s11 : ρ (.tmp 11) = .pointer (some ⟨c, 0, none⟩) := hs 11 (by kernel_rfl)
                  refine Or.inl ⟨(hd 42 (by kernel_rfl) 150 (by kernel_rfl)).1, ?_⟩
                  clear hd hs
                  rw [BigFrame.run_move (.tmp 11) rfl]
                  exact ⟨s11, hB, hrefl w⟩
                refine And.intro ?_ ?_
                · intro V ρ w hB hc hf hd hs
                  have s151 : ρ (.tmp 151) = .pointer (some ⟨c, 0, none⟩) := (hd 43 (by kernel_rfl) 151 (by kernel_rfl)).2.trans (hd 43 (by kernel_rfl) 151 (by kernel_rfl)).1
                  refine Or.inl ⟨(hd 42 (by kernel_rfl) 150 (by kernel_rfl)).1, ?_⟩
                  clear hd hs
                  refine outcome_enter (w := w) (f := 16) (args := #[.pointer (some ⟨c, 0, none⟩)]) (by simp [go_sem, hc, hf, s151]) ?_
                  refine (bytes_c (Fn.below S9.out.C hB (Fn.lt S9.out.C))).mono ?_
                  rintro e w' ⟨rfl, F, Lx⟩
                  exact ⟨_, rfl, Eq.mpr (if_neg (by decide)) (Eq.mpr (if_neg (by decide)) (Eq.mpr (if_pos rfl) ⟨_, rfl, F.lt, bts_of_fn F⟩)), hB.trans (Lx.mono hB.size), Lx⟩
                refine And.intro ?_ ?_
                · intro V ρ w hB hc hf hd hs
                  obtain ⟨f152, s152⟩ := hd 44 (by kernel_rfl) 152 (by kernel_rfl)
                  refine Or.inl ⟨(hd 42 (by kernel_rfl) 150 (by kernel_rfl)).1, ?_⟩
                  clear hd hs
                  obtain ⟨g', hv, hg, hbt⟩ := (Eq.mp (if_pos rfl) (Eq.mp (if_neg (by decide)) (Eq.mp (if_neg (by decide)) f152)))
                  rw [hv] at s152
                  exact outcome_value (v := .string (strOf (bt X) 64)) (run_conv rfl s152 (conv_bts hbt)) ⟨rfl, hB, hrefl w⟩
                refine And.intro ?_ ?_
                · intro V ρ w hB hc hf hd hs
                  have s12 : ρ (.tmp 12) = .string (strOf (bt X) 64) := hs 12 (by kernel_rfl)
                  refine Or.inl ⟨(hd 42 (by kernel_rfl) 150 (by kernel_rfl)).1, ?_⟩
                  clear hd hs
                  rw [BigFrame.run_move (.tmp 12) rfl]
                  exact ⟨s12, hB, hrefl w⟩
                refine And.intro ?_ ?_
                · intro V ρ w hB hc hf hd hs
                  have s153 : ρ (.tmp 153) = .string (strOf (bt X) 64) := (hd 45 (by kernel_rfl) 153 (by kernel_rfl)).2.trans (hd 45 (by kernel_rfl) 153 (by kernel_rfl)).1
                  have s154 : ρ (.tmp 154) = .string (strOf (bt X) 64) := (hd 46 (by kernel_rfl) 154 (by kernel_rfl)).2.trans (hd 46 (by kernel_rfl) 154 (by kernel_rfl)).1
                  refine Or.inl ⟨(hd 42 (by kernel_rfl) 150 (by kernel_rfl)).1, ?_⟩
                  clear hd hs
                  refine outcome_value (v := .bool false) ?_ ⟨rfl, hB, hrefl w⟩
                  simp [go_sem, hc, hf, s153, s154]
                refine And.intro ?_ ?_
                · intro V ρ w hB hc hf hd hs
                  have s150 : ρ (.tmp 150) = .bool false := (hd 42 (by kernel_rfl) 150 (by kernel_rfl)).2.trans (hd 42 (by kernel_rfl) 150 (by kernel_rfl)).1
                  have s155 : ρ (.tmp 155) = .bool false := (hd 47 (by kernel_rfl) 155 (by kernel_rfl)).2.trans (hd 47 (by kernel_rfl) 155 (by kernel_rfl)).1
                  clear hd hs
                  refine outcome_value (v := .bool false) ?_ ⟨rfl, hB, hrefl w⟩
                  simp [go_sem, hc, hf, s150, s155]
                exact trivial
              case hend =>
                intro V w10 hB10 hV
                have vl : V 48 = .bool false := hV 48 (by decide)
                simp only [lexF, Act.put, List.setIfInBounds_toArray, List.set_cons_zero, List.set_cons_succ, vl]
                clear hV
                go_wp2
                go_roundg (len - (i + 1))
                case measure => omega
                case rel => exact ⟨i + 1, X, U, rb, rc, by go_num, rfl, by omega, hid (Fn.below S9.out.M hB10 (Fn.lt S9.out.M)), HG9, HL9, hid (S9.out.R.of_block (hB10.block _ S9.out.R.lt)), hid (S9.out.V.below hB10), HUX, hid (S9.out.L.trans (hB10.mono S9.out.L.size))⟩
            · have h4 : 4 ≤ A := by omega
              have hAm : A < m := by omega
              have hua : used X A = true := by
                cases hu : used X A with
                | true => rfl
                | false => exact absurd (Or.inr (Or.inr hu)) hno
              clear hno
              have hl8 : (0 : Nat) ≤ 8 := by omega
              have HUA := hid hua
              have HUA' := hid (show U A = true from by rw [HUX0.out A hAm]; exact hua)
              clear hua
              go_upto_region 24 with first
                | (go_at_call 14; refine (give_yes SD.out.M A h4 hAm hm2 HUA.out).mono ?_; rintro e wp ⟨rfl, M3, R3⟩; have SP := hid (SD.out.mod hm16 R3 M3 (by omega) (by omega) (by omega) hb); have crp := SP.out.R.cellv (i := 0) rfl; have ep2 : wp.cell? ⟨z10, 2, none⟩ = some (.int .u32 (A : Int)) := SP.out.A.cellv rfl; clear M3 R3)
                | (go_at_call 18; refine (rgive_yes SP.out.V hm2 A h4 hAm HUA'.out).mono ?_; rintro e we ⟨v', rfl, hV', Lx⟩; obtain ⟨rb1, rc1, rfl⟩ := rm_form hV'; have HV' := hid hV'; have SE := hid (SP.out.below Lx); have cre := SE.out.R.cellv (i := 0) rfl; have fre := SE.out.R.frozen 0; clear hV' Lx)
              have S9 := hid (SE.out.set hm16 (HV'.out) (by omega) hsr hcr hr7w)
              obtain ⟨w9, hw9⟩ : ∃ w9, w9 = we.setCell ⟨r7, 0, none⟩ (.slice (some ⟨rb1, 0, none⟩) m rc1) := ⟨_, rfl⟩
              rw [← hw9] at S9 ⊢
              clear hw9
              have HG9 := hid (tight_clr (i := A) HG.out)
              have HL9 := hid (lab_clr HLB.out h4)
              have HUX := hid (show ∀ j, j < m → (fun j => U j && !decide (j = A)) j = used (clrX X A) j from fun j hj => by rw [used_clr, ← HUX0.out j hj])
              have hkx : ([] : List Nat).length = 0 := rfl
              have R13 := hid (Row32.nil w9 (some ⟨x13, 0, none⟩))
              have R14 := hid (Row32.nil w9 (some ⟨x13 + 1, 0, none⟩))
              clear e0 e1 e2 e3 cr cre fre crp ep2 hku' UD SD SE SP HG HLB TD HV'

              obtain ⟨u, hu1, hu2⟩ := used_both (b := b) hm2 HUX.out N
              have HU1 := hid hu1
              have HU2 := hid hu2
              clear hu1 hu2
              have hrefl := HRF.out
              refine region_rel (n := 158) (B := fun w' => Below w9.heap.size w9 w') (E := fun w w' => Below w.heap.size w w') (φ := (fun (kq : Nat) (v : Value) (w : World) => if kq = 29 then ∃ g : Nat, v = .slice (some ⟨g, 0, none⟩) 64 64 ∧ g < w.heap.size ∧ Bts w g 0 64 (bt (clrX X A)) else if kq = 32 then ∃ g : Nat, v = .slice (some ⟨g, 0, none⟩) 64 64 ∧ g < w.heap.size ∧ Bts w g 0 64 (rbt (fun j => U j && !decide (j = A)) m) else if kq = 44 then ∃ g : Nat, v = .slice (some ⟨g, 0, none⟩) 64 64 ∧ g < w.heap.size ∧ Bts w g 0 64 (bt X) else v = ([.int .i64 0, .int .i64 0, .bool false, .bool false, .slice (some ⟨x13, 0, none⟩) 0 0, .slice (some ⟨x13 + 1, 0, none⟩) 0 0, .bool true, .bool false, .bool false, .bool false, .pointer (some ⟨b, 0, none⟩), .pointer (some ⟨z10, 1, none⟩), .int .i64 N, .bool u, .agg #[.slice (some ⟨rb1, 0, none⟩) m rc1], .pointer (some ⟨z10, 1, none⟩), .int .i64 N, .bool u, .bool false, .bool false, .bool false, .pointer (some ⟨b, 0, none⟩), .int .i64 ((m : Int) - (cnt (used (clrX X A)) m : Nat)), .agg #[.slice (some ⟨rb1, 0, none⟩) m rc1], .int .i64 ((m : Int) - (cnt (used (clrX X A)) m : Nat)), .bool false, .bool false, .bool false, .pointer (some ⟨b, 0, none⟩), undef, .string (strOf (bt (clrX X A)) 64), .agg #[.slice (some ⟨rb1, 0, none⟩) m rc1], undef, .string (strOf (bt (clrX X A)) 64), .bool false, .bool false, .bool false, .pointer (some ⟨b, 0, none⟩), .int .i64 (m : Int), .int .i64 (m : Int), .bool false, .bool false, .bool false, .pointer (some ⟨c, 0, none⟩), undef, .string (strOf (bt X) 64), .string (strOf (bt X) 64), .bool false, .bool false] : List Value).getD kq undef)) (by kernel_rfl) (by kernel_rfl) (by kernel_rfl) (by kernel_rfl) ?mono hrefl ((Below.refl _ _).drew) ?hop ?hend
              case mono =>
                intro j v w w' h hE
                dsimp only at h
                split at h
                · rename_i hj
                  subst hj
                  obtain ⟨g, h1, h2, h3⟩ := h
                  exact Eq.mpr (if_pos rfl) ⟨g, h1, Nat.lt_of_lt_of_le h2 hE.size, h3.below h2 hE⟩
                · rename_i hj
                  rw [if_neg hj]
                  split at h
                  · rename_i hj
                    subst hj
                    obtain ⟨g, h1, h2, h3⟩ := h
                    exact Eq.mpr (if_pos rfl) ⟨g, h1, Nat.lt_of_lt_of_le h2 hE.size, h3.below h2 hE⟩
                  · rename_i hj
                    rw [if_neg hj]
                    split at h
                    · rename_i hj
                      subst hj
                      obtain ⟨g, h1, h2, h3⟩ := h
                      exact Eq.mpr (if_pos rfl) ⟨g, h1, Nat.lt_of_lt_of_le h2 hE.size, h3.below h2 hE⟩
                    · rename_i hj
                      rw [if_neg hj]
                      exact h
              case hop =>
                refine And.intro ?_ ?_
                · intro V ρ w hB hc hf hd hs
                  have s15 : ρ (.tmp 15) = .int .i64 0 := hs 15 (by kernel_rfl)
                  clear hd hs
                  rw [BigFrame.run_move (.tmp 15) rfl]
                  exact ⟨s15, hB, hrefl w⟩
                refine And.intro ?_ ?_
                · intro V ρ w hB hc hf hd hs
                  have s16 : ρ (.tmp 16) = .int .i64 0 := hs 16 (by kernel_rfl)
                  clear hd hs
                  rw [BigFrame.run_move (.tmp 16) rfl]
                  exact ⟨s16, hB, hrefl w⟩
                refine And.intro ?_ ?_
                · intro V ρ w hB hc hf hd hs
                  have s108 : ρ (.tmp 108) = .int .i64 0 := (hd 0 (by kernel_rfl) 108 (by kernel_rfl)).2.trans (hd 0 (by kernel_rfl) 108 (by kernel_rfl)).1
                  have s109 : ρ (.tmp 109) = .int .i64 0 := (hd 1 (by kernel_rfl) 109 (by kernel_rfl)).2.trans (hd 1 (by kernel_rfl) 109 (by kernel_rfl)).1
                  clear hd hs
                  refine outcome_value (v := .bool false) ?_ ⟨rfl, hB, hrefl w⟩
                  simp [go_sem, hc, hf, s108, s109]
                refine And.intro ?_ ?_
                · intro V ρ w hB hc hf hd hs
                  have s110 : ρ (.tmp 110) = .bool false := (hd 2 (by kernel_rfl) 110 (by kernel_rfl)).2.trans (hd 2 (by kernel_rfl) 110 (by kernel_rfl)).1
                  clear hd hs
                  rw [BigFrame.run_move (.tmp 110) rfl]
                  exact ⟨s110, hB, hrefl w⟩
                refine And.intro ?_ ?_
                · intro V ρ w hB hc hf hd hs
                  have s13 : ρ (.tmp 13) = .slice (some ⟨x13, 0, none⟩) 0 0 := hs 13 (by kernel_rfl)
                  refine Or.inl ⟨(hd 3 (by kernel_rfl) 111 (by kernel_rfl)).1, ?_⟩
                  clear hd hs
                  rw [BigFrame.run_move (.tmp 13) rfl]
                  exact ⟨s13, hB, hrefl w⟩
                refine And.intro ?_ ?_
                · intro V ρ w hB hc hf hd hs
                  have s14 : ρ (.tmp 14) = .slice (some ⟨x13 + 1, 0, none⟩) 0 0 := hs 14 (by kernel_rfl)
                  refine Or.inl ⟨(hd 3 (by kernel_rfl) 111 (by kernel_rfl)).1, ?_⟩
                  clear hd hs
                  rw [BigFrame.run_move (.tmp 14) rfl]
                  exact ⟨s14, hB, hrefl w⟩
                refine And.intro ?_ ?_
                · intro V ρ w hB hc hf hd hs
                  have s112 : ρ (.tmp 112) = .slice (some ⟨x13, 0, none⟩) 0 0 := (hd 4 (by kernel_rfl) 112 (by kernel_rfl)).2.trans (hd 4 (by kernel_rfl) 112 (by kernel_rfl)).1
                  have s113 : ρ (.tmp 113) = .slice (some ⟨x13 + 1, 0, none⟩) 0 0 := (hd 5 (by kernel_rfl) 113 (by kernel_rfl)).2.trans (hd 5 (by kernel_rfl) 113 (by kernel_rfl)).1
                  refine Or.inl ⟨(hd 3 (by kernel_rfl) 111 (by kernel_rfl)).1, ?_⟩
                  clear hd hs
                  refine outcome_enter (w := w) (f := 21) (args := #[.slice (some ⟨x13, 0, none⟩) 0 0, .slice (some ⟨x13 + 1, 0, none⟩) 0 0]) (by simp [go_sem, hc, hf, s112, s113]) ?_
                  refine (same_n hkx _ _ hl8 (R13.out.below hB) (R14.out.below hB)).mono ?_
                  rintro e w' ⟨rfl, Lx⟩
                  exact ⟨_, rfl, rfl, hB.trans (Lx.mono hB.size), Lx⟩
                refine And.intro ?_ ?_
                · intro V ρ w hB hc hf hd hs
                  have s114 : ρ (.tmp 114) = .bool true := (hd 6 (by kernel_rfl) 114 (by kernel_rfl)).2.trans (hd 6 (by kernel_rfl) 114 (by kernel_rfl)).1
                  refine Or.inl ⟨(hd 3 (by kernel_rfl) 111 (by kernel_rfl)).1, ?_⟩
                  clear hd hs
                  refine outcome_value (v := .bool false) ?_ ⟨rfl, hB, hrefl w⟩
                  simp [go_sem, hc, hf, s114]
                refine And.intro ?_ ?_
                · intro V ρ w hB hc hf hd hs
                  have s111 : ρ (.tmp 111) = .bool false := (hd 3 (by kernel_rfl) 111 (by kernel_rfl)).2.trans (hd 3 (by kernel_rfl) 111 (by kernel_rfl)).1
                  have s115 : ρ (.tmp 115) = .bool false := (hd 7 (by kernel_rfl) 115 (by kernel_rfl)).2.trans (hd 7 (by kernel_rfl) 115 (by kernel_rfl)).1
                  clear hd hs
                  refine outcome_value (v := .bool false) ?_ ⟨rfl, hB, hrefl w⟩
                  simp [go_sem, hc, hf, s111, s115]
                refine And.intro ?_ ?_
                · intro V ρ w hB hc hf hd hs
                  have s116 : ρ (.tmp 116) = .bool false := (hd 8 (by kernel_rfl) 116 (by kernel_rfl)).2.trans (hd 8 (by kernel_rfl) 116 (by kernel_rfl)).1
                  clear hd hs
                  rw [BigFrame.run_move (.tmp 116) rfl]
                  exact ⟨s116, hB, hrefl w⟩
                refine And.intro ?_ ?_
                · intro V ρ w hB hc hf hd hs
                  have s5 : ρ (.tmp 5) = .pointer (some ⟨b, 0, none⟩) := hs 5 (by kernel_rfl)
                  refine Or.inl ⟨(hd 9 (by kernel_rfl) 117 (by kernel_rfl)).1, ?_⟩
                  clear hd hs
                  rw [BigFrame.run_move (.tmp 5) rfl]
                  exact ⟨s5, hB, hrefl w⟩
                refine And.intro ?_ ?_
                · intro V ρ w hB hc hf hd hs
                  have s10 : ρ (.tmp 10) = .pointer (some ⟨z10, 0, none⟩) := hs 10 (by kernel_rfl)
                  refine Or.inl ⟨(hd 9 (by kernel_rfl) 117 (by kernel_rfl)).1, ?_⟩
                  clear hd hs
                  refine outcome_value (v := .pointer (some ⟨z10, 1, none⟩)) ?_ ⟨rfl, hB, hrefl w⟩
                  simp [go_sem, hc, hf, s10]
                refine And.intro ?_ ?_
                · intro V ρ w hB hc hf hd hs
                  have s119 : ρ (.tmp 119) = .pointer (some ⟨z10, 1, none⟩) := (hd 11 (by kernel_rfl) 119 (by kernel_rfl)).2.trans (hd 11 (by kernel_rfl) 119 (by kernel_rfl)).1
                  refine Or.inl ⟨(hd 9 (by kernel_rfl) 117 (by kernel_rfl)).1, ?_⟩
                  clear hd hs
                  have cn : w.cell? ⟨z10, 1, none⟩ = some (.int .i64 N) := (hB.cell S9.out.A.lt).trans (S9.out.A.cellv rfl)
                  exact outcome_value (v := .int .i64 N) (by simp [go_sem, hc, hf, s119, cn]) ⟨rfl, hB, hrefl w⟩
                refine And.intro ?_ ?_
                · intro V ρ w hB hc hf hd hs
                  have s118 : ρ (.tmp 118) = .pointer (some ⟨b, 0, none⟩) := (hd 10 (by kernel_rfl) 118 (by kernel_rfl)).2.trans (hd 10 (by kernel_rfl) 118 (by kernel_rfl)).1
                  have s120 : ρ (.tmp 120) = .int .i64 N := (hd 12 (by kernel_rfl) 120 (by kernel_rfl)).2.trans (hd 12 (by kernel_rfl) 120 (by kernel_rfl)).1
                  refine Or.inl ⟨(hd 9 (by kernel_rfl) 117 (by kernel_rfl)).1, ?_⟩
                  clear hd hs
                  refine outcome_enter (w := w) (f := 13) (args := #[.pointer (some ⟨b, 0, none⟩), .int .i64 N]) (by simp [go_sem, hc, hf, s118, s120]) ?_
                  refine (HU1.out w (Fn.below S9.out.M hB (Fn.lt S9.out.M))).mono ?_
                  rintro e w' ⟨rfl, rfl⟩
                  exact ⟨_, rfl, rfl, hB, hrefl _⟩
                refine And.intro ?_ ?_
                · intro V ρ w hB hc hf hd hs
                  have s7 : ρ (.tmp 7) = .pointer (some ⟨r7, 0, none⟩) := hs 7 (by kernel_rfl)
                  refine Or.inl ⟨(hd 9 (by kernel_rfl) 117 (by kernel_rfl)).1, ?_⟩
                  clear hd hs
                  have cm : w.cell? ⟨r7, 0, none⟩ = some (.slice (some ⟨rb1, 0, none⟩) m rc1) := (hB.cell S9.out.R.lt).trans (S9.out.R.cellv rfl)
                  exact outcome_value (v := .agg #[.slice (some ⟨rb1, 0, none⟩) m rc1]) (by simp [go_sem, hc, hf, s7, cm]) ⟨rfl, hB, hrefl w⟩
                refine And.intro ?_ ?_
                · intro V ρ w hB hc hf hd hs
                  have s10 : ρ (.tmp 10) = .pointer (some ⟨z10, 0, none⟩) := hs 10 (by kernel_rfl)
                  refine Or.inl ⟨(hd 9 (by kernel_rfl) 117 (by kernel_rfl)).1, ?_⟩
                  clear hd hs
                  refine outcome_value (v := .pointer (some ⟨z10, 1, none⟩)) ?_ ⟨rfl, hB, hrefl w⟩
                  simp [go_sem, hc, hf, s10]
                refine And.intro ?_ ?_
                · intro V ρ w hB hc hf hd hs
                  have s123 : ρ (.tmp 123) = .pointer (some ⟨z10, 1, none⟩) := (hd 15 (by kernel_rfl) 123 (by kernel_rfl)).2.trans (hd 15 (by kernel_rfl) 123 (by kernel_rfl)).1
                  refine Or.inl ⟨(hd 9 (by kernel_rfl) 117 (by kernel_rfl)).1, ?_⟩
                  clear hd hs
                  have cn : w.cell? ⟨z10, 1, none⟩ = some (.int .i64 N) := (hB.cell S9.out.A.lt).trans (S9.out.A.cellv rfl)
                  exact outcome_value (v := .int .i64 N) (by simp [go_sem, hc, hf, s123, cn]) ⟨rfl, hB, hrefl w⟩
                refine And.intro ?_ ?_
                · intro V ρ w hB hc hf hd hs
                  have s122 : ρ (.tmp 122) = .agg #[.slice (some ⟨rb1, 0, none⟩) m rc1] := (hd 14 (by kernel_rfl) 122 (by kernel_rfl)).2.trans (hd 14 (by kernel_rfl) 122 (by kernel_rfl)).1
                  have s124 : ρ (.tmp 124) = .int .i64 N := (hd 16 (by kernel_rfl) 124 (by kernel_rfl)).2.trans (hd 16 (by kernel_rfl) 124 (by kernel_rfl)).1
                  refine Or.inl ⟨(hd 9 (by kernel_rfl) 117 (by kernel_rfl)).1, ?_⟩
                  clear hd hs
                  refine outcome_enter (w := w) (f := 22) (args := #[.agg #[.slice (some ⟨rb1, 0, none⟩) m rc1], .int .i64 N]) (by simp [go_sem, hc, hf, s122, s124]) ?_
                  refine (HU2.out w _ (S9.out.V.below hB)).mono ?_
                  rintro e w' ⟨rfl, Lx⟩
                  exact ⟨_, rfl, rfl, hB.trans (Lx.mono hB.size), Lx⟩
                refine And.intro ?_ ?_
                · intro V ρ w hB hc hf hd hs
                  have s121 : ρ (.tmp 121) = .bool u := (hd 13 (by kernel_rfl) 121 (by kernel_rfl)).2.trans (hd 13 (by kernel_rfl) 121 (by kernel_rfl)).1
                  have s125 : ρ (.tmp 125) = .bool u := (hd 17 (by kernel_rfl) 125 (by kernel_rfl)).2.trans (hd 17 (by kernel_rfl) 125 (by kernel_rfl)).1
                  refine Or.inl ⟨(hd 9 (by kernel_rfl) 117 (by kernel_rfl)).1, ?_⟩
                  clear hd hs
                  refine outcome_value (v := .bool false) ?_ ⟨rfl, hB, hrefl w⟩
                  simp [go_sem, hc, hf, s121, s125]
                refine And.intro ?_ ?_
                · intro V ρ w hB hc hf hd hs
                  have s117 : ρ (.tmp 117) = .bool false := (hd 9 (by kernel_rfl) 117 (by kernel_rfl)).2.trans (hd 9 (by kernel_rfl) 117 (by kernel_rfl)).1
                  have s126 : ρ (.tmp 126) = .bool false := (hd 18 (by kernel_rfl) 126 (by kernel_rfl)).2.trans (hd 18 (by kernel_rfl) 126 (by kernel_rfl)).1
                  clear hd hs
                  refine outcome_value (v := .bool false) ?_ ⟨rfl, hB, hrefl w⟩
                  simp [go_sem, hc, hf, s117, s126]
                refine And.intro ?_ ?_
                · intro V ρ w hB hc hf hd hs
                  have s127 : ρ (.tmp 127) = .bool false := (hd 19 (by kernel_rfl) 127 (by kernel_rfl)).2.trans (hd 19 (by kernel_rfl) 127 (by kernel_rfl)).1
                  clear hd hs
                  rw [BigFrame.run_move (.tmp 127) rfl]
                  exact ⟨s127, hB, hrefl w⟩
                refine And.intro ?_ ?_
                · intro V ρ w hB hc hf hd hs
                  have s5 : ρ (.tmp 5) = .pointer (some ⟨b, 0, none⟩) := hs 5 (by kernel_rfl)
                  refine Or.inl ⟨(hd 20 (by kernel_rfl) 128 (by kernel_rfl)).1, ?_⟩
                  clear hd hs
                  rw [BigFrame.run_move (.tmp 5) rfl]
                  exact ⟨s5, hB, hrefl w⟩
                refine And.intro ?_ ?_
                · intro V ρ w hB hc hf hd hs
                  have s129 : ρ (.tmp 129) = .pointer (some ⟨b, 0, none⟩) := (hd 21 (by kernel_rfl) 129 (by kernel_rfl)).2.trans (hd 21 (by kernel_rfl) 129 (by kernel_rfl)).1
                  refine Or.inl ⟨(hd 20 (by kernel_rfl) 128 (by kernel_rfl)).1, ?_⟩
                  clear hd hs
                  refine outcome_enter (w := w) (f := 11) (args := #[.pointer (some ⟨b, 0, none⟩)]) (by simp [go_sem, hc, hf, s129]) ?_
                  refine (free_c (Fn.below S9.out.M hB (Fn.lt S9.out.M)) hm2 HG9.out).mono ?_
                  rintro e w' ⟨rfl, rfl⟩
                  exact ⟨_, rfl, rfl, hB, hrefl _⟩
                refine And.intro ?_ ?_
                · intro V ρ w hB hc hf hd hs
                  have s7 : ρ (.tmp 7) = .pointer (some ⟨r7, 0, none⟩) := hs 7 (by kernel_rfl)
                  refine Or.inl ⟨(hd 20 (by kernel_rfl) 128 (by kernel_rfl)).1, ?_⟩
                  clear hd hs
                  have cm : w.cell? ⟨r7, 0, none⟩ = some (.slice (some ⟨rb1, 0, none⟩) m rc1) := (hB.cell S9.out.R.lt).trans (S9.out.R.cellv rfl)
                  exact outcome_value (v := .agg #[.slice (some ⟨rb1, 0, none⟩) m rc1]) (by simp [go_sem, hc, hf, s7, cm]) ⟨rfl, hB, hrefl w⟩
                refine And.intro ?_ ?_
                · intro V ρ w hB hc hf hd hs
                  have s131 : ρ (.tmp 131) = .agg #[.slice (some ⟨rb1, 0, none⟩) m rc1] := (hd 23 (by kernel_rfl) 131 (by kernel_rfl)).2.trans (hd 23 (by kernel_rfl) 131 (by kernel_rfl)).1
                  refine Or.inl ⟨(hd 20 (by kernel_rfl) 128 (by kernel_rfl)).1, ?_⟩
                  clear hd hs
                  refine outcome_enter (w := w) (f := 23) (args := #[.agg #[.slice (some ⟨rb1, 0, none⟩) m rc1]]) (by simp [go_sem, hc, hf, s131]) ?_
                  refine (rfree_c (S9.out.V.below hB) hm2).mono ?_
                  rintro e w' ⟨rfl, Lx⟩
                  exact ⟨_, rfl, by rw [cnt_congr HUX.out]; rfl, hB.trans (Lx.mono hB.size), Lx⟩
                refine And.intro ?_ ?_
                · intro V ρ w hB hc hf hd hs
                  have s130 : ρ (.tmp 130) = .int .i64 ((m : Int) - (cnt (used (clrX X A)) m : Nat)) := (hd 22 (by kernel_rfl) 130 (by kernel_rfl)).2.trans (hd 22 (by kernel_rfl) 130 (by kernel_rfl)).1
                  have s132 : ρ (.tmp 132) = .int .i64 ((m : Int) - (cnt (used (clrX X A)) m : Nat)) := (hd 24 (by kernel_rfl) 132 (by kernel_rfl)).2.trans (hd 24 (by kernel_rfl) 132 (by kernel_rfl)).1
                  refine Or.inl ⟨(hd 20 (by kernel_rfl) 128 (by kernel_rfl)).1, ?_⟩
                  clear hd hs
                  refine outcome_value (v := .bool false) ?_ ⟨rfl, hB, hrefl w⟩
                  simp [go_sem, hc, hf, s130, s132]
                refine And.intro ?_ ?_
                · intro V ρ w hB hc hf hd hs
                  have s128 : ρ (.tmp 128) = .bool false := (hd 20 (by kernel_rfl) 128 (by kernel_rfl)).2.trans (hd 20 (by kernel_rfl) 128 (by kernel_rfl)).1
                  have s133 : ρ (.tmp 133) = .bool false := (hd 25 (by kernel_rfl) 133 (by kernel_rfl)).2.trans (hd 25 (by kernel_rfl) 133 (by kernel_rfl)).1
                  clear hd hs
                  refine outcome_value (v := .bool false) ?_ ⟨rfl, hB, hrefl w⟩
                  simp [go_sem, hc, hf, s128, s133]
                refine And.intro ?_ ?_
                · intro V ρ w hB hc hf hd hs
                  have s134 : ρ (.tmp 134) = .bool false := (hd 26 (by kernel_rfl) 134 (by kernel_rfl)).2.trans (hd 26 (by kernel_rfl) 134 (by kernel_rfl)).1
                  clear hd hs
                  rw [BigFrame.run_move (.tmp 134) rfl]
                  exact ⟨s134, hB, hrefl w⟩
                refine And.intro ?_ ?_
                · intro V ρ w hB hc hf hd hs
                  have s5 : ρ (.tmp 5) = .pointer (some ⟨b, 0, none⟩) := hs 5 (by kernel_rfl)
                  refine Or.inl ⟨(hd 27 (by kernel_rfl) 135 (by kernel_rfl)).1, ?_⟩
                  clear hd hs
                  rw [BigFrame.run_move (.tmp 5) rfl]
                  exact ⟨s5, hB, hrefl w⟩
                refine And.intro ?_ ?_
                · intro V ρ w hB hc hf hd hs
                  have s136 : ρ (.tmp 136) = .pointer (some ⟨b, 0, none⟩) := (hd 28 (by kernel_rfl) 136 (by kernel_rfl)).2.trans (hd 28 (by kernel_rfl) 136 (by kernel_rfl)).1
                  refine Or.inl ⟨(hd 27 (by kernel_rfl) 135 (by kernel_rfl)).1, ?_⟩
                  clear hd hs
                  refine outcome_enter (w := w) (f := 16) (args := #[.pointer (some ⟨b, 0, none⟩)]) (by simp [go_sem, hc, hf, s136]) ?_
                  refine (bytes_c (Fn.below S9.out.M hB (Fn.lt S9.out.M))).mono ?_
                  rintro e w' ⟨rfl, F, Lx⟩
                  exact ⟨_, rfl, Eq.mpr (if_pos rfl) ⟨_, rfl, F.lt, bts_of_fn F⟩, hB.trans (Lx.mono hB.size), Lx⟩
                refine And.intro ?_ ?_
                · intro V ρ w hB hc hf hd hs
                  obtain ⟨f137, s137⟩ := hd 29 (by kernel_rfl) 137 (by kernel_rfl)
                  refine Or.inl ⟨(hd 27 (by kernel_rfl) 135 (by kernel_rfl)).1, ?_⟩
                  clear hd hs
                  obtain ⟨g', hv, hg, hbt⟩ := (Eq.mp (if_pos rfl) f137)
                  rw [hv] at s137
                  exact outcome_value (v := .string (strOf (bt (clrX X A)) 64)) (run_conv rfl s137 (conv_bts hbt)) ⟨rfl, hB, hrefl w⟩
                refine And.intro ?_ ?_
                · intro V ρ w hB hc hf hd hs
                  have s7 : ρ (.tmp 7) = .pointer (some ⟨r7, 0, none⟩) := hs 7 (by kernel_rfl)
                  refine Or.inl ⟨(hd 27 (by kernel_rfl) 135 (by kernel_rfl)).1, ?_⟩
                  clear hd hs
                  have cm : w.cell? ⟨r7, 0, none⟩ = some (.slice (some ⟨rb1, 0, none⟩) m rc1) := (hB.cell S9.out.R.lt).trans (S9.out.R.cellv rfl)
                  exact outcome_value (v := .agg #[.slice (some ⟨rb1, 0, none⟩) m rc1]) (by simp [go_sem, hc, hf, s7, cm]) ⟨rfl, hB, hrefl w⟩
                refine And.intro ?_ ?_
                · intro V ρ w hB hc hf hd hs
                  have s139 : ρ (.tmp 139) = .agg #[.slice (some ⟨rb1, 0, none⟩) m rc1] := (hd 31 (by kernel_rfl) 139 (by kernel_rfl)).2.trans (hd 31 (by kernel_rfl) 139 (by kernel_rfl)).1
                  refine Or.inl ⟨(hd 27 (by kernel_rfl) 135 (by kernel_rfl)).1, ?_⟩
                  clear hd hs
                  refine outcome_enter (w := w) (f := 24) (args := #[.agg #[.slice (some ⟨rb1, 0, none⟩) m rc1]]) (by simp [go_sem, hc, hf, s139]) ?_
                  refine (rbytes_c (S9.out.V.below hB) hm2).mono ?_
                  rintro e w' ⟨g9, rfl, F, Lx⟩
                  exact ⟨_, rfl, Eq.mpr (if_neg (by decide)) (Eq.mpr (if_pos rfl) ⟨_, rfl, F.lt, bts_of_fn F⟩), hB.trans (Lx.mono hB.size), Lx⟩
                refine And.intro ?_ ?_
                · intro V ρ w hB hc hf hd hs
                  obtain ⟨f140, s140⟩ := hd 32 (by kernel_rfl) 140 (by kernel_rfl)
                  refine Or.inl ⟨(hd 27 (by kernel_rfl) 135 (by kernel_rfl)).1, ?_⟩
                  clear hd hs
                  obtain ⟨g', hv, hg, hbt⟩ := (Eq.mp (if_pos rfl) (Eq.mp (if_neg (by decide)) f140))
                  rw [hv] at s140
                  exact outcome_value (v := .string (strOf (bt (clrX X A)) 64)) (run_conv rfl s140 ((conv_bts hbt).trans (by rw [strOf_congr (n := 64) (fun j hj => rbt_bt HG9.out HUX.out j hj)]))) ⟨rfl, hB, hrefl w⟩
                refine And.intro ?_ ?_
                · intro V ρ w hB hc hf hd hs
                  have s138 : ρ (.tmp 138) = .string (strOf (bt (clrX X A)) 64) := (hd 30 (by kernel_rfl) 138 (by kernel_rfl)).2.trans (hd 30 (by kernel_rfl) 138 (by kernel_rfl)).1
                  have s141 : ρ (.tmp 141) = .string (strOf (bt (clrX X A)) 64) := (hd 33 (by kernel_rfl) 141 (by kernel_rfl)).2.trans (hd 33 (by kernel_rfl) 141 (by kernel_rfl)).1
                  refine Or.inl ⟨(hd 27 (by kernel_rfl) 135 (by kernel_rfl)).1, ?_⟩
                  clear hd hs
                  refine outcome_value (v := .bool false) ?_ ⟨rfl, hB, hrefl w⟩
                  simp [go_sem, hc, hf, s138, s141]
                refine And.intro ?_ ?_
                · intro V ρ w hB hc hf hd hs
                  have s135 : ρ (.tmp 135) = .bool false := (hd 27 (by kernel_rfl) 135 (by kernel_rfl)).2.trans (hd 27 (by kernel_rfl) 135 (by kernel_rfl)).1
                  have s142 : ρ (.tmp 142) = .bool false := (hd 34 (by kernel_rfl) 142 (by kernel_rfl)).2.trans (hd 34 (by kernel_rfl) 142 (by kernel_rfl)).1
                  clear hd hs
                  refine outcome_value (v := .bool false) ?_ ⟨rfl, hB, hrefl w⟩
                  simp [go_sem, hc, hf, s135, s142]
                refine And.intro ?_ ?_
                · intro V ρ w hB hc hf hd hs
                  have s143 : ρ (.tmp 143) = .bool false := (hd 35 (by kernel_rfl) 143 (by kernel_rfl)).2.trans (hd 35 (by kernel_rfl) 143 (by kernel_rfl)).1
                  clear hd hs
                  rw [BigFrame.run_move (.tmp 143) rfl]
                  exact ⟨s143, hB, hrefl w⟩
                refine And.intro ?_ ?_
                · intro V ρ w hB hc hf hd hs
                  have s5 : ρ (.tmp 5) = .pointer (some ⟨b, 0, none⟩) := hs 5 (by kernel_rfl)
                  refine Or.inl ⟨(hd 36 (by kernel_rfl) 144 (by kernel_rfl)).1, ?_⟩
                  clear hd hs
                  rw [BigFrame.run_move (.tmp 5) rfl]
                  exact ⟨s5, hB, hrefl w⟩
                refine And.intro ?_ ?_
                · intro V ρ w hB hc hf hd hs
                  have s145 : ρ (.tmp 145) = .pointer (some ⟨b, 0, none⟩) := (hd 37 (by kernel_rfl) 145 (by kernel_rfl)).2.trans (hd 37 (by kernel_rfl) 145 (by kernel_rfl)).1
                  refine Or.inl ⟨(hd 36 (by kernel_rfl) 144 (by kernel_rfl)).1, ?_⟩
                  clear hd hs
                  refine outcome_enter (w := w) (f := 25) (args := #[.pointer (some ⟨b, 0, none⟩)]) (by simp [go_sem, hc, hf, s145]) ?_
                  refine (len_c (Fn.below S9.out.M hB (Fn.lt S9.out.M))).mono ?_
                  rintro e w' ⟨rfl, rfl⟩
                  exact ⟨_, rfl, rfl, hB, hrefl _⟩
                refine And.intro ?_ ?_
                · intro V ρ w hB hc hf hd hs
                  have s0 : ρ (.tmp 0) = .int .i64 (m : Int) := hs 0 (by kernel_rfl)
                  refine Or.inl ⟨(hd 36 (by kernel_rfl) 144 (by kernel_rfl)).1, ?_⟩
                  clear hd hs
                  rw [BigFrame.run_move (.tmp 0) rfl]
                  exact ⟨s0, hB, hrefl w⟩
                refine And.intro ?_ ?_
                · intro V ρ w hB hc hf hd hs
                  have s146 : ρ (.tmp 146) = .int .i64 (m : Int) := (hd 38 (by kernel_rfl) 146 (by kernel_rfl)).2.trans (hd 38 (by kernel_rfl) 146 (by kernel_rfl)).1
                  have s147 : ρ (.tmp 147) = .int .i64 (m : Int) := (hd 39 (by kernel_rfl) 147 (by kernel_rfl)).2.trans (hd 39 (by kernel_rfl) 147 (by kernel_rfl)).1
                  refine Or.inl ⟨(hd 36 (by kernel_rfl) 144 (by kernel_rfl)).1, ?_⟩
                  clear hd hs
                  refine outcome_value (v := .bool false) ?_ ⟨rfl, hB, hrefl w⟩
                  simp [go_sem, hc, hf, s146, s147]
                refine And.intro ?_ ?_
                · intro V ρ w hB hc hf hd hs
                  have s144 : ρ (.tmp 144) = .bool false := (hd 36 (by kernel_rfl) 144 (by kernel_rfl)).2.trans (hd 36 (by kernel_rfl) 144 (by kernel_rfl)).1
                  have s148 : ρ (.tmp 148) = .bool false := (hd 40 (by kernel_rfl) 148 (by kernel_rfl)).2.trans (hd 40 (by kernel_rfl) 148 (by kernel_rfl)).1
                  clear hd hs
                  refine outcome_value (v := .bool false) ?_ ⟨rfl, hB, hrefl w⟩
                  simp [go_sem, hc, hf, s144, s148]
                refine And.intro ?_ ?_
                · intro V ρ w hB hc hf hd hs
                  have s149 : ρ (.tmp 149) = .bool false := (hd 41 (by kernel_rfl) 149 (by kernel_rfl)).2.trans (hd 41 (by kernel_rfl) 149 (by kernel_rfl)).1
                  clear hd hs
                  rw [BigFrame.run_move (.tmp 149) rfl]
                  exact ⟨s149, hB, hrefl w⟩
                refine And.intro ?_ ?_
                · intro V ρ w hB hc hf hd hs
                  have s11 : ρ (.tmp 11) = .pointer (some ⟨c, 0, none⟩) := hs 11 (by kernel_rfl)
                  refine Or.inl ⟨(hd 42 (by kernel_rfl) 150 (by kernel_rfl)).1, ?_⟩
                  clear hd hs
                  rw [BigFrame.run_move (.tmp 11) rfl]
                  exact ⟨s11, hB, hrefl w⟩
                refine And.intro ?_ ?_
                · intro V ρ w hB hc hf hd hs
                  have s151 : ρ (.tmp 151) = .pointer (some ⟨c, 0, none⟩) := (hd 43 (by kernel_rfl) 151 (by kernel_rfl)).2.trans (hd 43 (by kernel_rfl) 151 (by kernel_rfl)).1
                  refine Or.inl ⟨(hd 42 (by kernel_rfl) 150 (by kernel_rfl)).1, ?_⟩
                  clear hd hs
                  refine outcome_enter (w := w) (f := 16) (args := #[.pointer (some ⟨c, 0, none⟩)]) (by simp [go_sem, hc, hf, s151]) ?_
                  refine (bytes_c (Fn.below S9.out.C hB (Fn.lt S9.out.C))).mono ?_
                  rintro e w' ⟨rfl, F, Lx⟩
                  exact ⟨_, rfl, Eq.mpr (if_neg (by decide)) (Eq.mpr (if_neg (by decide)) (Eq.mpr (if_pos rfl) ⟨_, rfl, F.lt, bts_of_fn F⟩)), hB.trans (Lx.mono hB.size), Lx⟩
                refine And.intro ?_ ?_
                · intro V ρ w hB hc hf hd hs
                  obtain ⟨f152, s152⟩ := hd 44 (by kernel_rfl) 152 (by kernel_rfl)
                  refine Or.inl ⟨(hd 42 (by kernel_rfl) 150 (by kernel_rfl)).1, ?_⟩
                  clear hd hs
                  obtain ⟨g', hv, hg, hbt⟩ := (Eq.mp (if_pos rfl) (Eq.mp (if_neg (by decide)) (Eq.mp (if_neg (by decide)) f152)))
                  rw [hv] at s152
                  exact outcome_value (v := .string (strOf (bt X) 64)) (run_conv rfl s152 (conv_bts hbt)) ⟨rfl, hB, hrefl w⟩
                refine And.intro ?_ ?_
                · intro V ρ w hB hc hf hd hs
                  have s12 : ρ (.tmp 12) = .string (strOf (bt X) 64) := hs 12 (by kernel_rfl)
                  refine Or.inl ⟨(hd 42 (by kernel_rfl) 150 (by kernel_rfl)).1, ?_⟩
                  clear hd hs
                  rw [BigFrame.run_move (.tmp 12) rfl]
                  exact ⟨s12, hB, hrefl w⟩
                refine And.intro ?_ ?_
                · intro V ρ w hB hc hf hd hs
                  have s153 : ρ (.tmp 153) = .string (strOf (bt X) 64) := (hd 45 (by kernel_rfl) 153 (by kernel_rfl)).2.trans (hd 45 (by kernel_rfl) 153 (by kernel_rfl)).1
                  have s154 : ρ (.tmp 154) = .string (strOf (bt X) 64) := (hd 46 (by kernel_rfl) 154 (by kernel_rfl)).2.trans (hd 46 (by kernel_rfl) 154 (by kernel_rfl)).1
                  refine Or.inl ⟨(hd 42 (by kernel_rfl) 150 (by kernel_rfl)).1, ?_⟩
                  clear hd hs
                  refine outcome_value (v := .bool false) ?_ ⟨rfl, hB, hrefl w⟩
                  simp [go_sem, hc, hf, s153, s154]
                refine And.intro ?_ ?_
                · intro V ρ w hB hc hf hd hs
                  have s150 : ρ (.tmp 150) = .bool false := (hd 42 (by kernel_rfl) 150 (by kernel_rfl)).2.trans (hd 42 (by kernel_rfl) 150 (by kernel_rfl)).1
                  have s155 : ρ (.tmp 155) = .bool false := (hd 47 (by kernel_rfl) 155 (by kernel_rfl)).2.trans (hd 47 (by kernel_rfl) 155 (by kernel_rfl)).1
                  clear hd hs
                  refine outcome_value (v := .bool false) ?_ ⟨rfl, hB, hrefl w⟩
                  simp [go_sem, hc, hf, s150, s155]
                exact trivial
              case hend =>
                intro V w10 hB10 hV
                have vl : V 48 = .bool false := hV 48 (by decide)
                simp only [lexF, Act.put, List.setIfInBounds_toArray, List.set_cons_zero, List.set_cons_succ, vl]
                clear hV
                go_wp2
                go_roundg (len - (i + 1))
                case measure => omega
                case rel => exact ⟨i + 1, (clrX X A), (fun j => U j && !decide (j = A)), rb1, rc1, by go_num, rfl, by omega, hid (Fn.below S9.out.M hB10 (Fn.lt S9.out.M)), HG9, HL9, hid (S9.out.R.of_block (hB10.block _ S9.out.R.lt)), hid (S9.out.V.below hB10), HUX, hid (S9.out.L.trans (hB10.mono S9.out.L.size))⟩
          · by_cases hK3 : K = 3
            · subst hK3
              clear hK1 hK2
              by_cases h600 : kl ≤ 600
              · have h600' : ¬ (600 : Int) < (kl : Int) := by omega
                have hl8 : (0 : Nat) ≤ 8 := by omega
                have HQB := hid hqb
                clear hqb
                go_upto_region 24 with first
                  | (go_at_call 19; refine (keep_c SD.out.M hm2 q kl kc kf UD.out (fun h x off e => HQB.out x off e h) hkl).mono ?_; rintro e wp ⟨rfl, M3, R3⟩; have SP := hid (SD.out.mod hm16 R3 M3 (by omega) (by omega) (by omega) hb); have UP := hid (UD.out.keep R3 (fun h x off e => HQB.out x off e h)); have crp := SP.out.R.cellv (i := 0) rfl; have ep3 : wp.cell? ⟨z10, 3, none⟩ = some (.slice q kl kc) := SP.out.A.cellv rfl; clear M3 R3)
                  | (go_at_call 20; refine (rkeep_c SP.out.V hm1 hm2 q kl kc kf UP.out h600).mono ?_; rintro e we ⟨v', rfl, hV', Lx⟩; obtain ⟨rb1, rc1, rfl⟩ := rm_form hV'; have HV' := hid hV'; have SE := hid (SP.out.below Lx); have cre := SE.out.R.cellv (i := 0) rfl; have fre := SE.out.R.frozen 0; clear hV' Lx)
                have S9 := hid (SE.out.set hm16 (HV'.out) (by omega) hsr hcr hr7w)
                obtain ⟨w9, hw9⟩ : ∃ w9, w9 = we.setCell ⟨r7, 0, none⟩ (.slice (some ⟨rb1, 0, none⟩) m rc1) := ⟨_, rfl⟩
                rw [← hw9] at S9 ⊢
                clear hw9
                have HG9 := hid (keep_tight (kl := kl) (kf := kf) hm1)
                have HL9 := hid (keep_lab (m := m) (kl := kl) (kf := kf))
                have HUX := hid (fun j (hj : j < m) => keep_used (kl := kl) (kf := kf) hj)
                have hkx : ([] : List Nat).length = 0 := rfl
                have R13 := hid (Row32.nil w9 (some ⟨x13, 0, none⟩))
                have R14 := hid (Row32.nil w9 (some ⟨x13 + 1, 0, none⟩))
                clear e0 e1 e2 e3 cr cre fre crp ep3 hku' UD SD SE SP HG HLB TD HV' UP

                obtain ⟨u, hu1, hu2⟩ := used_both (b := b) hm2 HUX.out N
                have HU1 := hid hu1
                have HU2 := hid hu2
                clear hu1 hu2
                have hrefl := HRF.out
                refine region_rel (n := 158) (B := fun w' => Below w9.heap.size w9 w') (E := fun w w' => Below w.heap.size w w') (φ := (fun (kq : Nat) (v : Value) (w : World) => if kq = 29 then ∃ g : Nat, v = .slice (some ⟨g, 0, none⟩) 64 64 ∧ g < w.heap.size ∧ Bts w g 0 64 (bt (keepX m kf kl)) else if kq = 32 then ∃ g : Nat, v = .slice (some ⟨g, 0, none⟩) 64 64 ∧ g < w.heap.size ∧ Bts w g 0 64 (rbt (keepU kf kl) m) else if kq = 44 then ∃ g : Nat, v = .slice (some ⟨g, 0, none⟩) 64 64 ∧ g < w.heap.size ∧ Bts w g 0 64 (bt X) else v = ([.int .i64 0, .int .i64 0, .bool false, .bool false, .slice (some ⟨x13, 0, none⟩) 0 0, .slice (some ⟨x13 + 1, 0, none⟩) 0 0, .bool true, .bool false, .bool false, .bool false, .pointer (some ⟨b, 0, none⟩), .pointer (some ⟨z10, 1, none⟩), .int .i64 N, .bool u, .agg #[.slice (some ⟨rb1, 0, none⟩) m rc1], .pointer (some ⟨z10, 1, none⟩), .int .i64 N, .bool u, .bool false, .bool false, .bool false, .pointer (some ⟨b, 0, none⟩), .int .i64 ((m : Int) - (cnt (used (keepX m kf kl)) m : Nat)), .agg #[.slice (some ⟨rb1, 0, none⟩) m rc1], .int .i64 ((m : Int) - (cnt (used (keepX m kf kl)) m : Nat)), .bool false, .bool false, .bool false, .pointer (some ⟨b, 0, none⟩), undef, .string (strOf (bt (keepX m kf kl)) 64), .agg #[.slice (some ⟨rb1, 0, none⟩) m rc1], undef, .string (strOf (bt (keepX m kf kl)) 64), .bool false, .bool false, .bool false, .pointer (some ⟨b, 0, none⟩), .int .i64 (m : Int), .int .i64 (m : Int), .bool false, .bool false, .bool false, .pointer (some ⟨c, 0, none⟩), undef, .string (strOf (bt X) 64), .string (strOf (bt X) 64), .bool false, .bool false] : List Value).getD kq undef)) (by kernel_rfl) (by kernel_rfl) (by kernel_rfl) (by kernel_rfl) ?mono hrefl ((Below.refl _ _).drew) ?hop ?hend
                case mono =>
                  intro j v w w' h hE
                  dsimp only at h
                  split at h
                  · rename_i hj
                    subst hj
                    obtain ⟨g, h1, h2, h3⟩ := h
                    exact Eq.mpr (if_pos rfl) ⟨g, h1, Nat.lt_of_lt_of_le h2 hE.size, h3.below h2 hE⟩
                  · rename_i hj
                    rw [if_neg hj]
                    split at h
                    · rename_i hj
                      subst hj
                      obtain ⟨g, h1, h2, h3⟩ := h
                      exact Eq.mpr (if_pos rfl) ⟨g, h1, Nat.lt_of_lt_of_le h2 hE.size, h3.below h2 hE⟩
                    · rename_i hj
                      rw [if_neg hj]
                      split at h
                      · rename_i hj
                        subst hj
                        obtain ⟨g, h1, h2, h3⟩ := h
                        exact Eq.mpr (if_pos rfl) ⟨g, h1, Nat.lt_of_lt_of_le h2 hE.size, h3.below h2 hE⟩
                      · rename_i hj
                        rw [if_neg hj]
                        exact h
                case hop =>
                  refine And.intro ?_ ?_
                  · intro V ρ w hB hc hf hd hs
                    have s15 : ρ (.tmp 15) = .int .i64 0 := hs 15 (by kernel_rfl)
                    clear hd hs
                    rw [BigFrame.run_move (.tmp 15) rfl]
                    exact ⟨s15, hB, hrefl w⟩
                  refine And.intro ?_ ?_
                  · intro V ρ w hB hc hf hd hs
                    have s16 : ρ (.tmp 16) = .int .i64 0 := hs 16 (by kernel_rfl)
                    clear hd hs
                    rw [BigFrame.run_move (.tmp 16) rfl]
                    exact ⟨s16, hB, hrefl w⟩
                  refine And.intro ?_ ?_
                  · intro V ρ w hB hc hf hd hs
                    have s108 : ρ (.tmp 108) = .int .i64 0 := (hd 0 (by kernel_rfl) 108 (by kernel_rfl)).2.trans (hd 0 (by kernel_rfl) 108 (by kernel_rfl)).1
                    have s109 : ρ (.tmp 109) = .int .i64 0 := (hd 1 (by kernel_rfl) 109 (by kernel_rfl)).2.trans (hd 1 (by kernel_rfl) 109 (by kernel_rfl)).1
                    clear hd hs
                    refine outcome_value (v := .bool false) ?_ ⟨rfl, hB, hrefl w⟩
                    simp [go_sem, hc, hf, s108, s109]
                  refine And.intro ?_ ?_
                  · intro V ρ w hB hc hf hd hs
                    have s110 : ρ (.tmp 110) = .bool false := (hd 2 (by kernel_rfl) 110 (by kernel_rfl)).2.trans (hd 2 (by kernel_rfl) 110 (by kernel_rfl)).1
                    clear hd hs
                    rw [BigFrame.run_move (.tmp 110) rfl]
                    exact ⟨s110, hB, hrefl w⟩
                  refine And.intro ?_ ?_
                  · intro V ρ w hB hc hf hd hs
                    have s13 : ρ (.tmp 13) = .slice (some ⟨x13, 0, none⟩) 0 0 := hs 13 (by kernel_rfl)
                    refine Or.inl ⟨(hd 3 (by kernel_rfl) 111 (by kernel_rfl)).1, ?_⟩
                    clear hd hs
                    rw [BigFrame.run_move (.tmp 13) rfl]
                    exact ⟨s13, hB, hrefl w⟩
                  refine And.intro ?_ ?_
                  · intro V ρ w hB hc hf hd hs
                    have s14 : ρ (.tmp 14) = .slice (some ⟨x13 + 1, 0, none⟩) 0 0 := hs 14 (by kernel_rfl)
                    refine Or.inl ⟨(hd 3 (by kernel_rfl) 111 (by kernel_rfl)).1, ?_⟩
                    clear hd hs
                    rw [BigFrame.run_move (.tmp 14) rfl]
                    exact ⟨s14, hB, hrefl w⟩
                  refine And.intro ?_ ?_
                  · intro V ρ w hB hc hf hd hs
                    have s112 : ρ (.tmp 112) = .slice (some ⟨x13, 0, none⟩) 0 0 := (hd 4 (by kernel_rfl) 112 (by kernel_rfl)).2.trans (hd 4 (by kernel_rfl) 112 (by kernel_rfl)).1
                    have s113 : ρ (.tmp 113) = .slice (some ⟨x13 + 1, 0, none⟩) 0 0 := (hd 5 (by kernel_rfl) 113 (by kernel_rfl)).2.trans (hd 5 (by kernel_rfl) 113 (by kernel_rfl)).1
                    refine Or.inl ⟨(hd 3 (by kernel_rfl) 111 (by kernel_rfl)).1, ?_⟩
                    clear hd hs
                    refine outcome_enter (w := w) (f := 21) (args := #[.slice (some ⟨x13, 0, none⟩) 0 0, .slice (some ⟨x13 + 1, 0, none⟩) 0 0]) (by simp [go_sem, hc, hf, s112, s113]) ?_
                    refine (same_n hkx _ _ hl8 (R13.out.below hB) (R14.out.below hB)).mono ?_
                    rintro e w' ⟨rfl, Lx⟩
                    exact ⟨_, rfl, rfl, hB.trans (Lx.mono hB.size), Lx⟩
                  refine And.intro ?_ ?_
                  · intro V ρ w hB hc hf hd hs
                    have s114 : ρ (.tmp 114) = .bool true := (hd 6 (by kernel_rfl) 114 (by kernel_rfl)).2.trans (hd 6 (by kernel_rfl) 114 (by kernel_rfl)).1
                    refine Or.inl ⟨(hd 3 (by kernel_rfl) 111 (by kernel_rfl)).1, ?_⟩
                    clear hd hs
                    refine outcome_value (v := .bool false) ?_ ⟨rfl, hB, hrefl w⟩
                    simp [go_sem, hc, hf, s114]
                  refine And.intro ?_ ?_
                  · intro V ρ w hB hc hf hd hs
                    have s111 : ρ (.tmp 111) = .bool false := (hd 3 (by kernel_rfl) 111 (by kernel_rfl)).2.trans (hd 3 (by kernel_rfl) 111 (by kernel_rfl)).1
                    have s115 : ρ (.tmp 115) = .bool false := (hd 7 (by kernel_rfl) 115 (by kernel_rfl)).2.trans (hd 7 (by kernel_rfl) 115 (by kernel_rfl)).1
                    clear hd hs
                    refine outcome_value (v := .bool false) ?_ ⟨rfl, hB, hrefl w⟩
                    simp [go_sem, hc, hf, s111, s115]
                  refine And.intro ?_ ?_
                  · intro V ρ w hB hc hf hd hs
                    have s116 : ρ (.tmp 116) = .bool false := (hd 8 (by kernel_rfl) 116 (by kernel_rfl)).2.trans (hd 8 (by kernel_rfl) 116 (by kernel_rfl)).1
                    clear hd hs
                    rw [BigFrame.run_move (.tmp 116) rfl]
                    exact ⟨s116, hB, hrefl w⟩
                  refine And.intro ?_ ?_
                  · intro V ρ w hB hc hf hd hs
                    have s5 : ρ (.tmp 5) = .pointer (some ⟨b, 0, none⟩) := hs 5 (by kernel_rfl)
                    refine Or.inl ⟨(hd 9 (by kernel_rfl) 117 (by kernel_rfl)).1, ?_⟩
                    clear hd hs
                    rw [BigFrame.run_move (.tmp 5) rfl]
                    exact ⟨s5, hB, hrefl w⟩
                  refine And.intro ?_ ?_
                  · intro V ρ w hB hc hf hd hs
                    have s10 : ρ (.tmp 10) = .pointer (some ⟨z10, 0, none⟩) := hs 10 (by kernel_rfl)
                    refine Or.inl ⟨(hd 9 (by kernel_rfl) 117 (by kernel_rfl)).1, ?_⟩
                    clear hd hs
                    refine outcome_value (v := .pointer (some ⟨z10, 1, none⟩)) ?_ ⟨rfl, hB, hrefl w⟩
                    simp [go_sem, hc, hf, s10]
                  refine And.intro ?_ ?_
                  · intro V ρ w hB hc hf hd hs
                    have s119 : ρ (.tmp 119) = .pointer (some ⟨z10, 1, none⟩) := (hd 11 (by kernel_rfl) 119 (by kernel_rfl)).2.trans (hd 11 (by kernel_rfl) 119 (by kernel_rfl)).1
                    refine Or.inl ⟨(hd 9 (by kernel_rfl) 117 (by kernel_rfl)).1, ?_⟩
                    clear hd hs
                    have cn : w.cell? ⟨z10, 1, none⟩ = some (.int .i64 N) := (hB.cell S9.out.A.lt).trans (S9.out.A.cellv rfl)
                    exact outcome_value (v := .int .i64 N) (by simp [go_sem, hc, hf, s119, cn]) ⟨rfl, hB, hrefl w⟩
                  refine And.intro ?_ ?_
                  · intro V ρ w hB hc hf hd hs
                    have s118 : ρ (.tmp 118) = .pointer (some ⟨b, 0, none⟩) := (hd 10 (by kernel_rfl) 118 (by kernel_rfl)).2.trans (hd 10 (by kernel_rfl) 118 (by kernel_rfl)).1
                    have s120 : ρ (.tmp 120) = .int .i64 N := (hd 12 (by kernel_rfl) 120 (by kernel_rfl)).2.trans (hd 12 (by kernel_rfl) 120 (by kernel_rfl)).1
                    refine Or.inl ⟨(hd 9 (by kernel_rfl) 117 (by kernel_rfl)).1, ?_⟩
                    clear hd hs
                    refine outcome_enter (w := w) (f := 13) (args := #[.pointer (some ⟨b, 0, none⟩), .int .i64 N]) (by simp [go_sem, hc, hf, s118, s120]) ?_
                    refine (HU1.out w (Fn.below S9.out.M hB (Fn.lt S9.out.M))).mono ?_
                    rintro e w' ⟨rfl, rfl⟩
                    exact ⟨_, rfl, rfl, hB, hrefl _⟩
                  refine And.intro ?_ ?_
                  · intro V ρ w hB hc hf hd hs
                    have s7 : ρ (.tmp 7) = .pointer (some ⟨r7, 0, none⟩) := hs 7 (by kernel_rfl)
                    refine Or.inl ⟨(hd 9 (by kernel_rfl) 117 (by kernel_rfl)).1, ?_⟩
                    clear hd hs
                    have cm : w.cell? ⟨r7, 0, none⟩ = some (.slice (some ⟨rb1, 0, none⟩) m rc1) := (hB.cell S9.out.R.lt).trans (S9.out.R.cellv rfl)
                    exact outcome_value (v := .agg #[.slice (some ⟨rb1, 0, none⟩) m rc1]) (by simp [go_sem, hc, hf, s7, cm]) ⟨rfl, hB, hrefl w⟩
                  refine And.intro ?_ ?_
                  · intro V ρ w hB hc hf hd hs
                    have s10 : ρ (.tmp 10) = .pointer (some ⟨z10, 0, none⟩) := hs 10 (by kernel_rfl)
                    refine Or.inl ⟨(hd 9 (by kernel_rfl) 117 (by kernel_rfl)).1, ?_⟩
                    clear hd hs
                    refine outcome_value (v := .pointer (some ⟨z10, 1, none⟩)) ?_ ⟨rfl, hB, hrefl w⟩
                    simp [go_sem, hc, hf, s10]
                  refine And.intro ?_ ?_
                  · intro V ρ w hB hc hf hd hs
                    have s123 : ρ (.tmp 123) = .pointer (some ⟨z10, 1, none⟩) := (hd 15 (by kernel_rfl) 123 (by kernel_rfl)).2.trans (hd 15 (by kernel_rfl) 123 (by kernel_rfl)).1
                    refine Or.inl ⟨(hd 9 (by kernel_rfl) 117 (by kernel_rfl)).1, ?_⟩
                    clear hd hs
                    have cn : w.cell? ⟨z10, 1, none⟩ = some (.int .i64 N) := (hB.cell S9.out.A.lt).trans (S9.out.A.cellv rfl)
                    exact outcome_value (v := .int .i64 N) (by simp [go_sem, hc, hf, s123, cn]) ⟨rfl, hB, hrefl w⟩
                  refine And.intro ?_ ?_
                  · intro V ρ w hB hc hf hd hs
                    have s122 : ρ (.tmp 122) = .agg #[.slice (some ⟨rb1, 0, none⟩) m rc1] := (hd 14 (by kernel_rfl) 122 (by kernel_rfl)).2.trans (hd 14 (by kernel_rfl) 122 (by kernel_rfl)).1
                    have s124 : ρ (.tmp 124) = .int .i64 N := (hd 16 (by kernel_rfl) 124 (by kernel_rfl)).2.trans (hd 16 (by kernel_rfl) 124 (by kernel_rfl)).1
                    refine Or.inl ⟨(hd 9 (by kernel_rfl) 117 (by kernel_rfl)).1, ?_⟩
                    clear hd hs
                    refine outcome_enter (w := w) (f := 22) (args := #[.agg #[.slice (some ⟨rb1, 0, none⟩) m rc1], .int .i64 N]) (by simp [go_sem, hc, hf, s122, s124]) ?_
                    refine (HU2.out w _ (S9.out.V.below hB)).mono ?_
                    rintro e w' ⟨rfl, Lx⟩
                    exact ⟨_, rfl, rfl, hB.trans (Lx.mono hB.size), Lx⟩
                  refine And.intro ?_ ?_
                  · intro V ρ w hB hc hf hd hs
                    have s121 : ρ (.tmp 121) = .bool u := (hd 13 (by kernel_rfl) 121 (by kernel_rfl)).2.trans (hd 13 (by kernel_rfl) 121 (by kernel_rfl)).1
                    have s125 : ρ (.tmp 125) = .bool u := (hd 17 (by kernel_rfl) 125 (by kernel_rfl)).2.trans (hd 17 (by kernel_rfl) 125 (by kernel_rfl)).1
                    refine Or.inl ⟨(hd 9 (by kernel_rfl) 117 (by kernel_rfl)).1, ?_⟩
                    clear hd hs
                    refine outcome_value (v := .bool false) ?_ ⟨rfl, hB, hrefl w⟩
                    simp [go_sem, hc, hf, s121, s125]
                  refine And.intro ?_ ?_
                  · intro V ρ w hB hc hf hd hs
                    have s117 : ρ (.tmp 117) = .bool false := (hd 9 (by kernel_rfl) 117 (by kernel_rfl)).2.trans (hd 9 (by kernel_rfl) 117 (by kernel_rfl)).1
                    have s126 : ρ (.tmp 126) = .bool false := (hd 18 (by kernel_rfl) 126 (by kernel_rfl)).2.trans (hd 18 (by kernel_rfl) 126 (by kernel_rfl)).1
                    clear hd hs
                    refine outcome_value (v := .bool false) ?_ ⟨rfl, hB, hrefl w⟩
                    simp [go_sem, hc, hf, s117, s126]
                  refine And.intro ?_ ?_
                  · intro V ρ w hB hc hf hd hs
                    have s127 : ρ (.tmp 127) = .bool false := (hd 19 (by kernel_rfl) 127 (by kernel_rfl)).2.trans (hd 19 (by kernel_rfl) 127 (by kernel_rfl)).1
                    clear hd hs
                    rw [BigFrame.run_move (.tmp 127) rfl]
                    exact ⟨s127, hB, hrefl w⟩
                  refine And.intro ?_ ?_
                  · intro V ρ w hB hc hf hd hs
                    have s5 : ρ (.tmp 5) = .pointer (some ⟨b, 0, none⟩) := hs 5 (by kernel_rfl)
                    refine Or.inl ⟨(hd 20 (by kernel_rfl) 128 (by kernel_rfl)).1, ?_⟩
                    clear hd hs
                    rw [BigFrame.run_move (.tmp 5) rfl]
                    exact ⟨s5, hB, hrefl w⟩
                  refine And.intro ?_ ?_
                  · intro V ρ w hB hc hf hd hs
                    have s129 : ρ (.tmp 129) = .pointer (some ⟨b, 0, none⟩) := (hd 21 (by kernel_rfl) 129 (by kernel_rfl)).2.trans (hd 21 (by kernel_rfl) 129 (by kernel_rfl)).1
                    refine Or.inl ⟨(hd 20 (by kernel_rfl) 128 (by kernel_rfl)).1, ?_⟩
                    clear hd hs
                    refine outcome_enter (w := w) (f := 11) (args := #[.pointer (some ⟨b, 0, none⟩)]) (by simp [go_sem, hc, hf, s129]) ?_
                    refine (free_c (Fn.below S9.out.M hB (Fn.lt S9.out.M)) hm2 HG9.out).mono ?_
                    rintro e w' ⟨rfl, rfl⟩
                    exact ⟨_, rfl, rfl, hB, hrefl _⟩
                  refine And.intro ?_ ?_
                  · intro V ρ w hB hc hf hd hs
                    have s7 : ρ (.tmp 7) = .pointer (some ⟨r7, 0, none⟩) := hs 7 (by kernel_rfl)
                    refine Or.inl ⟨(hd 20 (by kernel_rfl) 128 (by kernel_rfl)).1, ?_⟩
                    clear hd hs
                    have cm : w.cell? ⟨r7, 0, none⟩ = some (.slice (some ⟨rb1, 0, none⟩) m rc1) := (hB.cell S9.out.R.lt).trans (S9.out.R.cellv rfl)
                    exact outcome_value (v := .agg #[.slice (some ⟨rb1, 0, none⟩) m rc1]) (by simp [go_sem, hc, hf, s7, cm]) ⟨rfl, hB, hrefl w⟩
                  refine And.intro ?_ ?_
                  · intro V ρ w hB hc hf hd hs
                    have s131 : ρ (.tmp 131) = .agg #[.slice (some ⟨rb1, 0, none⟩) m rc1] := (hd 23 (by kernel_rfl) 131 (by kernel_rfl)).2.trans (hd 23 (by kernel_rfl) 131 (by kernel_rfl)).1
                    refine Or.inl ⟨(hd 20 (by kernel_rfl) 128 (by kernel_rfl)).1, ?_⟩
                    clear hd hs
                    refine outcome_enter (w := w) (f := 23) (args := #[.agg #[.slice (some ⟨rb1, 0, none⟩) m rc1]]) (by simp [go_sem, hc, hf, s131]) ?_
                    refine (rfree_c (S9.out.V.below hB) hm2).mono ?_
                    rintro e w' ⟨rfl, Lx⟩
                    exact ⟨_, rfl, by rw [cnt_congr HUX.out]; rfl, hB.trans (Lx.mono hB.size), Lx⟩
                  refine And.intro ?_ ?_
                  · intro V ρ w hB hc hf hd hs
                    have s130 : ρ (.tmp 130) = .int .i64 ((m : Int) - (cnt (used (keepX m kf kl)) m : Nat)) := (hd 22 (by kernel_rfl) 130 (by kernel_rfl)).2.trans (hd 22 (by kernel_rfl) 130 (by kernel_rfl)).1
                    have s132 : ρ (.tmp 132) = .int .i64 ((m : Int) - (cnt (used (keepX m kf kl)) m : Nat)) := (hd 24 (by kernel_rfl) 132 (by kernel_rfl)).2.trans (hd 24 (by kernel_rfl) 132 (by kernel_rfl)).1
                    refine Or.inl ⟨(hd 20 (by kernel_rfl) 128 (by kernel_rfl)).1, ?_⟩
                    clear hd hs
                    refine outcome_value (v := .bool false) ?_ ⟨rfl, hB, hrefl w⟩
                    simp [go_sem, hc, hf, s130, s132]
                  refine And.intro ?_ ?_
                  · intro V ρ w hB hc hf hd hs
                    have s128 : ρ (.tmp 128) = .bool false := (hd 20 (by kernel_rfl) 128 (by kernel_rfl)).2.trans (hd 20 (by kernel_rfl) 128 (by kernel_rfl)).1
                    have s133 : ρ (.tmp 133) = .bool false := (hd 25 (by kernel_rfl) 133 (by kernel_rfl)).2.trans (hd 25 (by kernel_rfl) 133 (by kernel_rfl)).1
                    clear hd hs
                    refine outcome_value (v := .bool false) ?_ ⟨rfl, hB, hrefl w⟩
                    simp [go_sem, hc, hf, s128, s133]
                  refine And.intro ?_ ?_
                  · intro V ρ w hB hc hf hd hs
                    have s134 : ρ (.tmp 134) = .bool false := (hd 26 (by kernel_rfl) 134 (by kernel_rfl)).2.trans (hd 26 (by kernel_rfl) 134 (by kernel_rfl)).1
                    clear hd hs
                    rw [BigFrame.run_move (.tmp 134) rfl]
                    exact ⟨s134, hB, hrefl w⟩
                  refine And.intro ?_ ?_
                  · intro V ρ w hB hc hf hd hs
                    have s5 : ρ (.tmp 5) = .pointer (some ⟨b, 0, none⟩) := hs 5 (by kernel_rfl)
                    refine Or.inl ⟨(hd 27 (by kernel_rfl) 135 (by kernel_rfl)).1, ?_⟩
                    clear hd hs
                    rw [BigFrame.run_move (.tmp 5) rfl]
                    exact ⟨s5, hB, hrefl w⟩
                  refine And.intro ?_ ?_
                  · intro V ρ w hB hc hf hd hs
                    have s136 : ρ (.tmp 136) = .pointer (some ⟨b, 0, none⟩) := (hd 28 (by kernel_rfl) 136 (by kernel_rfl)).2.trans (hd 28 (by kernel_rfl) 136 (by kernel_rfl)).1
                    refine Or.inl ⟨(hd 27 (by kernel_rfl) 135 (by kernel_rfl)).1, ?_⟩
                    clear hd hs
                    refine outcome_enter (w := w) (f := 16) (args := #[.pointer (some ⟨b, 0, none⟩)]) (by simp [go_sem, hc, hf, s136]) ?_
                    refine (bytes_c (Fn.below S9.out.M hB (Fn.lt S9.out.M))).mono ?_
                    rintro e w' ⟨rfl, F, Lx⟩
                    exact ⟨_, rfl, Eq.mpr (if_pos rfl) ⟨_, rfl, F.lt, bts_of_fn F⟩, hB.trans (Lx.mono hB.size), Lx⟩
                  refine And.intro ?_ ?_
                  · intro V ρ w hB hc hf hd hs
                    obtain ⟨f137, s137⟩ := hd 29 (by kernel_rfl) 137 (by kernel_rfl)
                    refine Or.inl ⟨(hd 27 (by kernel_rfl) 135 (by kernel_rfl)).1, ?_⟩
                    clear hd hs
                    obtain ⟨g', hv, hg, hbt⟩ := (Eq.mp (if_pos rfl) f137)
                    rw [hv] at s137
                    exact outcome_value (v := .string (strOf (bt (keepX m kf kl)) 64)) (run_conv rfl s137 (conv_bts hbt)) ⟨rfl, hB, hrefl w⟩
                  refine And.intro ?_ ?_
                  · intro V ρ w hB hc hf hd hs
                    have s7 : ρ (.tmp 7) = .pointer (some ⟨r7, 0, none⟩) := hs 7 (by kernel_rfl)
                    refine Or.inl ⟨(hd 27 (by kernel_rfl) 135 (by kernel_rfl)).1, ?_⟩
                    clear hd hs
                    have cm : w.cell? ⟨r7, 0, none⟩ = some (.slice (some ⟨rb1, 0, none⟩) m rc1) := (hB.cell S9.out.R.lt).trans (S9.out.R.cellv rfl)
                    exact outcome_value (v := .agg #[.slice (some ⟨rb1, 0, none⟩) m rc1]) (by simp [go_sem, hc, hf, s7, cm]) ⟨rfl, hB, hrefl w⟩
                  refine And.intro ?_ ?_
                  · intro V ρ w hB hc hf hd hs
                    have s139 : ρ (.tmp 139) = .agg #[.slice (some ⟨rb1, 0, none⟩) m rc1] := (hd 31 (by kernel_rfl) 139 (by kernel_rfl)).2.trans (hd 31 (by kernel_rfl) 139 (by kernel_rfl)).1
                    refine Or.inl ⟨(hd 27 (by kernel_rfl) 135 (by kernel_rfl)).1, ?_⟩
                    clear hd hs
                    refine outcome_enter (w := w) (f := 24) (args := #[.agg #[.slice (some ⟨rb1, 0, none⟩) m rc1]]) (by simp [go_sem, hc, hf, s139]) ?_
                    refine (rbytes_c (S9.out.V.below hB) hm2).mono ?_
                    rintro e w' ⟨g9, rfl, F, Lx⟩
                    exact ⟨_, rfl, Eq.mpr (if_neg (by decide)) (Eq.mpr (if_pos rfl) ⟨_, rfl, F.lt, bts_of_fn F⟩), hB.trans (Lx.mono hB.size), Lx⟩
                  refine And.intro ?_ ?_
                  · intro V ρ w hB hc hf hd hs
                    obtain ⟨f140, s140⟩ := hd 32 (by kernel_rfl) 140 (by kernel_rfl)
                    refine Or.inl ⟨(hd 27 (by kernel_rfl) 135 (by kernel_rfl)).1, ?_⟩
                    clear hd hs
                    obtain ⟨g', hv, hg, hbt⟩ := (Eq.mp (if_pos rfl) (Eq.mp (if_neg (by decide)) f140))
                    rw [hv] at s140
                    exact outcome_value (v := .string (strOf (bt (keepX m kf kl)) 64)) (run_conv rfl s140 ((conv_bts hbt).trans (by rw [strOf_congr (n := 64) (fun j hj => rbt_bt HG9.out HUX.out j hj)]))) ⟨rfl, hB, hrefl w⟩
                  refine And.intro ?_ ?_
                  · intro V ρ w hB hc hf hd hs
                    have s138 : ρ (.tmp 138) = .string (strOf (bt (keepX m kf kl)) 64) := (hd 30 (by kernel_rfl) 138 (by kernel_rfl)).2.trans (hd 30 (by kernel_rfl) 138 (by kernel_rfl)).1
                    have s141 : ρ (.tmp 141) = .string (strOf (bt (keepX m kf kl)) 64) := (hd 33 (by kernel_rfl) 141 (by kernel_rfl)).2.trans (hd 33 (by kernel_rfl) 141 (by kernel_rfl)).1
                    refine Or.inl ⟨(hd 27 (by kernel_rfl) 135 (by kernel_rfl)).1, ?_⟩
                    clear hd hs
                    refine outcome_value (v := .bool false) ?_ ⟨rfl, hB, hrefl w⟩
                    simp [go_sem, hc, hf, s138, s141]
                  refine And.intro ?_ ?_
                  · intro V ρ w hB hc hf hd hs
                    have s135 : ρ (.tmp 135) = .bool false := (hd 27 (by kernel_rfl) 135 (by kernel_rfl)).2.trans (hd 27 (by kernel_rfl) 135 (by kernel_rfl)).1
                    have s142 : ρ (.tmp 142) = .bool false := (hd 34 (by kernel_rfl) 142 (by kernel_rfl)).2.trans (hd 34 (by kernel_rfl) 142 (by kernel_rfl)).1
                    clear hd hs
                    refine outcome_value (v := .bool false) ?_ ⟨rfl, hB, hrefl w⟩
                    simp [go_sem, hc, hf, s135, s142]
                  refine And.intro ?_ ?_
                  · intro V ρ w hB hc hf hd hs
                    have s143 : ρ (.tmp 143) = .bool false := (hd 35 (by kernel_rfl) 143 (by kernel_rfl)).2.trans (hd 35 (by kernel_rfl) 143 (by kernel_rfl)).1
                    clear hd hs
                    rw [BigFrame.run_move (.tmp 143) rfl]
                    exact ⟨s143, hB, hrefl w⟩
                  refine And.intro ?_ ?_
                  · intro V ρ w hB hc hf hd hs
                    have s5 : ρ (.tmp 5) = .pointer (some ⟨b, 0, none⟩) := hs 5 (by kernel_rfl)
                    refine Or.inl ⟨(hd 36 (by kernel_rfl) 144 (by kernel_rfl)).1, ?_⟩
                    clear hd hs
                    rw [BigFrame.run_move (.tmp 5) rfl]
                    exact ⟨s5, hB, hrefl w⟩
                  refine And.intro ?_ ?_
                  · intro V ρ w hB hc hf hd hs
                    have s145 : ρ (.tmp 145) = .pointer (some ⟨b, 0, none⟩) := (hd 37 (by kernel_rfl) 145 (by kernel_rfl)).2.trans (hd 37 (by kernel_rfl) 145 (by kernel_rfl)).1
                    refine Or.inl ⟨(hd 36 (by kernel_rfl) 144 (by kernel_rfl)).1, ?_⟩
                    clear hd hs
                    refine outcome_enter (w := w) (f := 25) (args := #[.pointer (some ⟨b, 0, none⟩)]) (by simp [go_sem, hc, hf, s145]) ?_
                    refine (len_c (Fn.below S9.out.M hB (Fn.lt S9.out.M))).mono ?_
                    rintro e w' ⟨rfl, rfl⟩
                    exact ⟨_, rfl, rfl, hB, hrefl _⟩
                  refine And.intro ?_ ?_
                  · intro V ρ w hB hc hf hd hs
                    have s0 : ρ (.tmp 0) = .int .i64 (m : Int) := hs 0 (by kernel_rfl)
                    refine Or.inl ⟨(hd 36 (by kernel_rfl) 144 (by kernel_rfl)).1, ?_⟩
                    clear hd hs
                    rw [BigFrame.run_move (.tmp 0) rfl]
                    exact ⟨s0, hB, hrefl w⟩
                  refine And.intro ?_ ?_
                  · intro V ρ w hB hc hf hd hs
                    have s146 : ρ (.tmp 146) = .int .i64 (m : Int) := (hd 38 (by kernel_rfl) 146 (by kernel_rfl)).2.trans (hd 38 (by kernel_rfl) 146 (by kernel_rfl)).1
                    have s147 : ρ (.tmp 147) = .int .i64 (m : Int) := (hd 39 (by kernel_rfl) 147 (by kernel_rfl)).2.trans (hd 39 (by kernel_rfl) 147 (by kernel_rfl)).1
                    refine Or.inl ⟨(hd 36 (by kernel_rfl) 144 (by kernel_rfl)).1, ?_⟩
                    clear hd hs
                    refine outcome_value (v := .bool false) ?_ ⟨rfl, hB, hrefl w⟩
                    simp [go_sem, hc, hf, s146, s147]
                  refine And.intro ?_ ?_
                  · intro V ρ w hB hc hf hd hs
                    have s144 : ρ (.tmp 144) = .bool false := (hd 36 (by kernel_rfl) 144 (by kernel_rfl)).2.trans (hd 36 (by kernel_rfl) 144 (by kernel_rfl)).1
                    have s148 : ρ (.tmp 148) = .bool false := (hd 40 (by kernel_rfl) 148 (by kernel_rfl)).2.trans (hd 40 (by kernel_rfl) 148 (by kernel_rfl)).1
                    clear hd hs
                    refine outcome_value (v := .bool false) ?_ ⟨rfl, hB, hrefl w⟩
                    simp [go_sem, hc, hf, s144, s148]
                  refine And.intro ?_ ?_
                  · intro V ρ w hB hc hf hd hs
                    have s149 : ρ (.tmp 149) = .bool false := (hd 41 (by kernel_rfl) 149 (by kernel_rfl)).2.trans (hd 41 (by kernel_rfl) 149 (by kernel_rfl)).1
                    clear hd hs
                    rw [BigFrame.run_move (.tmp 149) rfl]
                    exact ⟨s149, hB, hrefl w⟩
                  refine And.intro ?_ ?_
                  · intro V ρ w hB hc hf hd hs
                    have s11 : ρ (.tmp 11) = .pointer (some ⟨c, 0, none⟩) := hs 11 (by kernel_rfl)
                    refine Or.inl ⟨(hd 42 (by kernel_rfl) 150 (by kernel_rfl)).1, ?_⟩
                    clear hd hs
                    rw [BigFrame.run_move (.tmp 11) rfl]
                    exact ⟨s11, hB, hrefl w⟩
                  refine And.intro ?_ ?_
                  · intro V ρ w hB hc hf hd hs
                    have s151 : ρ (.tmp 151) = .pointer (some ⟨c, 0, none⟩) := (hd 43 (by kernel_rfl) 151 (by kernel_rfl)).2.trans (hd 43 (by kernel_rfl) 151 (by kernel_rfl)).1
                    refine Or.inl ⟨(hd 42 (by kernel_rfl) 150 (by kernel_rfl)).1, ?_⟩
                    clear hd hs
                    refine outcome_enter (w := w) (f := 16) (args := #[.pointer (some ⟨c, 0, none⟩)]) (by simp [go_sem, hc, hf, s151]) ?_
                    refine (bytes_c (Fn.below S9.out.C hB (Fn.lt S9.out.C))).mono ?_
                    rintro e w' ⟨rfl, F, Lx⟩
                    exact ⟨_, rfl, Eq.mpr (if_neg (by decide)) (Eq.mpr (if_neg (by decide)) (Eq.mpr (if_pos rfl) ⟨_, rfl, F.lt, bts_of_fn F⟩)), hB.trans (Lx.mono hB.size), Lx⟩
                  refine And.intro ?_ ?_
                  · intro V ρ w hB hc hf hd hs
                    obtain ⟨f152, s152⟩ := hd 44 (by kernel_rfl) 152 (by kernel_rfl)
                    refine Or.inl ⟨(hd 42 (by kernel_rfl) 150 (by kernel_rfl)).1, ?_⟩
                    clear hd hs
                    obtain ⟨g', hv, hg, hbt⟩ := (Eq.mp (if_pos rfl) (Eq.mp (if_neg (by decide)) (Eq.mp (if_neg (by decide)) f152)))
                    rw [hv] at s152
                    exact outcome_value (v := .string (strOf (bt X) 64)) (run_conv rfl s152 (conv_bts hbt)) ⟨rfl, hB, hrefl w⟩
                  refine And.intro ?_ ?_
                  · intro V ρ w hB hc hf hd hs
                    have s12 : ρ (.tmp 12) = .string (strOf (bt X) 64) := hs 12 (by kernel_rfl)
                    refine Or.inl ⟨(hd 42 (by kernel_rfl) 150 (by kernel_rfl)).1, ?_⟩
                    clear hd hs
                    rw [BigFrame.run_move (.tmp 12) rfl]
                    exact ⟨s12, hB, hrefl w⟩
                  refine And.intro ?_ ?_
                  · intro V ρ w hB hc hf hd hs
                    have s153 : ρ (.tmp 153) = .string (strOf (bt X) 64) := (hd 45 (by kernel_rfl) 153 (by kernel_rfl)).2.trans (hd 45 (by kernel_rfl) 153 (by kernel_rfl)).1
                    have s154 : ρ (.tmp 154) = .string (strOf (bt X) 64) := (hd 46 (by kernel_rfl) 154 (by kernel_rfl)).2.trans (hd 46 (by kernel_rfl) 154 (by kernel_rfl)).1
                    refine Or.inl ⟨(hd 42 (by kernel_rfl) 150 (by kernel_rfl)).1, ?_⟩
                    clear hd hs
                    refine outcome_value (v := .bool false) ?_ ⟨rfl, hB, hrefl w⟩
                    simp [go_sem, hc, hf, s153, s154]
                  refine And.intro ?_ ?_
                  · intro V ρ w hB hc hf hd hs
                    have s150 : ρ (.tmp 150) = .bool false := (hd 42 (by kernel_rfl) 150 (by kernel_rfl)).2.trans (hd 42 (by kernel_rfl) 150 (by kernel_rfl)).1
                    have s155 : ρ (.tmp 155) = .bool false := (hd 47 (by kernel_rfl) 155 (by kernel_rfl)).2.trans (hd 47 (by kernel_rfl) 155 (by kernel_rfl)).1
                    clear hd hs
                    refine outcome_value (v := .bool false) ?_ ⟨rfl, hB, hrefl w⟩
                    simp [go_sem, hc, hf, s150, s155]
                  exact trivial
                case hend =>
                  intro V w10 hB10 hV
                  have vl : V 48 = .bool false := hV 48 (by decide)
                  simp only [lexF, Act.put, List.setIfInBounds_toArray, List.set_cons_zero, List.set_cons_succ, vl]
                  clear hV
                  go_wp2
                  go_roundg (len - (i + 1))
                  case measure => omega
                  case rel => exact ⟨i + 1, (keepX m kf kl), (keepU kf kl), rb1, rc1, by go_num, rfl, by omega, hid (Fn.below S9.out.M hB10 (Fn.lt S9.out.M)), HG9, HL9, hid (S9.out.R.of_block (hB10.block _ S9.out.R.lt)), hid (S9.out.V.below hB10), HUX, hid (S9.out.L.trans (hB10.mono S9.out.L.size))⟩
              · have h600' : (600 : Int) < (kl : Int) := by omega
                go_wp2
                go_roundg (len - (i + 1))
                case measure => omega
                case rel => exact ⟨i + 1, X, U, rb, rc, by go_num, rfl, by omega, hid SD.out.M, HG, HLB, hid SD.out.R, hid SD.out.V, HUX0, hid SD.out.L⟩

            · skip
              have hl8 : (0 : Nat) ≤ 8 := by omega
              go_upto_region 24 with fail
              have S9 := SD
              have HG9 := HG
              have HL9 := HLB
              have HUX := HUX0
              obtain ⟨w9, rfl⟩ : ∃ w9, w9 = wd := ⟨wd, rfl⟩
              have hkx : ([] : List Nat).length = 0 := rfl
              have R13 := hid (Row32.nil w9 (some ⟨x13, 0, none⟩))
              have R14 := hid (Row32.nil w9 (some ⟨x13 + 1, 0, none⟩))
              clear e0 e1 e2 e3 cr hku' UD SD HG HLB HUX0 TD

              obtain ⟨u, hu1, hu2⟩ := used_both (b := b) hm2 HUX.out N
              have HU1 := hid hu1
              have HU2 := hid hu2
              clear hu1 hu2
              have hrefl := HRF.out
              refine region_rel (n := 158) (B := fun w' => Below w9.heap.size w9 w') (E := fun w w' => Below w.heap.size w w') (φ := (fun (kq : Nat) (v : Value) (w : World) => if kq = 29 then ∃ g : Nat, v = .slice (some ⟨g, 0, none⟩) 64 64 ∧ g < w.heap.size ∧ Bts w g 0 64 (bt X) else if kq = 32 then ∃ g : Nat, v = .slice (some ⟨g, 0, none⟩) 64 64 ∧ g < w.heap.size ∧ Bts w g 0 64 (rbt U m) else if kq = 44 then ∃ g : Nat, v = .slice (some ⟨g, 0, none⟩) 64 64 ∧ g < w.heap.size ∧ Bts w g 0 64 (bt X) else v = ([.int .i64 0, .int .i64 0, .bool false, .bool false, .slice (some ⟨x13, 0, none⟩) 0 0, .slice (some ⟨x13 + 1, 0, none⟩) 0 0, .bool true, .bool false, .bool false, .bool false, .pointer (some ⟨b, 0, none⟩), .pointer (some ⟨z10, 1, none⟩), .int .i64 N, .bool u, .agg #[.slice (some ⟨rb, 0, none⟩) m rc], .pointer (some ⟨z10, 1, none⟩), .int .i64 N, .bool u, .bool false, .bool false, .bool false, .pointer (some ⟨b, 0, none⟩), .int .i64 ((m : Int) - (cnt (used X) m : Nat)), .agg #[.slice (some ⟨rb, 0, none⟩) m rc], .int .i64 ((m : Int) - (cnt (used X) m : Nat)), .bool false, .bool false, .bool false, .pointer (some ⟨b, 0, none⟩), undef, .string (strOf (bt X) 64), .agg #[.slice (some ⟨rb, 0, none⟩) m rc], undef, .string (strOf (bt X) 64), .bool false, .bool false, .bool false, .pointer (some ⟨b, 0, none⟩), .int .i64 (m : Int), .int .i64 (m : Int), .bool false, .bool false, .bool false, .pointer (some ⟨c, 0, none⟩), undef, .string (strOf (bt X) 64), .string (strOf (bt X) 64), .bool false, .bool false] : List Value).getD kq undef)) (by kernel_rfl) (by kernel_rfl) (by kernel_rfl) (by kernel_rfl) ?mono hrefl ((Below.refl _ _).drew) ?hop ?hend
              case mono =>
                intro j v w w' h hE
                dsimp only at h
                split at h
                · rename_i hj
                  subst hj
                  obtain ⟨g, h1, h2, h3⟩ := h
                  exact Eq.mpr (if_pos rfl) ⟨g, h1, Nat.lt_of_lt_of_le h2 hE.size, h3.below h2 hE⟩
                · rename_i hj
                  rw [if_neg hj]
                  split at h
                  · rename_i hj
                    subst hj
                    obtain ⟨g, h1, h2, h3⟩ := h
                    exact Eq.mpr (if_pos rfl) ⟨g, h1, Nat.lt_of_lt_of_le h2 hE.size, h3.below h2 hE⟩
                  · rename_i hj
                    rw [if_neg hj]
                    split at h
                    · rename_i hj
                      subst hj
                      obtain ⟨g, h1, h2, h3⟩ := h
                      exact Eq.mpr (if_pos rfl) ⟨g, h1, Nat.lt_of_lt_of_le h2 hE.size, h3.below h2 hE⟩
                    · rename_i hj
                      rw [if_neg hj]
                      exact h
              case hop =>
                refine And.intro ?_ ?_
                · intro V ρ w hB hc hf hd hs
                  have s15 : ρ (.tmp 15) = .int .i64 0 := hs 15 (by kernel_rfl)
                  clear hd hs
                  rw [BigFrame.run_move (.tmp 15) rfl]
                  exact ⟨s15, hB, hrefl w⟩
                refine And.intro ?_ ?_
                · intro V ρ w hB hc hf hd hs
                  have s16 : ρ (.tmp 16) = .int .i64 0 := hs 16 (by kernel_rfl)
                  clear hd hs
                  rw [BigFrame.run_move (.tmp 16) rfl]
                  exact ⟨s16, hB, hrefl w⟩
                refine And.intro ?_ ?_
                · intro V ρ w hB hc hf hd hs
                  have s108 : ρ (.tmp 108) = .int .i64 0 := (hd 0 (by kernel_rfl) 108 (by kernel_rfl)).2.trans (hd 0 (by kernel_rfl) 108 (by kernel_rfl)).1
                  have s109 : ρ (.tmp 109) = .int .i64 0 := (hd 1 (by kernel_rfl) 109 (by kernel_rfl)).2.trans (hd 1 (by kernel_rfl) 109 (by kernel_rfl)).1
                  clear hd hs
                  refine outcome_value (v := .bool false) ?_ ⟨rfl, hB, hrefl w⟩
                  simp [go_sem, hc, hf, s108, s109]
                refine And.intro ?_ ?_
                · intro V ρ w hB hc hf hd hs
                  have s110 : ρ (.tmp 110) = .bool false := (hd 2 (by kernel_rfl) 110 (by kernel_rfl)).2.trans (hd 2 (by kernel_rfl) 110 (by kernel_rfl)).1
                  clear hd hs
                  rw [BigFrame.run_move (.tmp 110) rfl]
                  exact ⟨s110, hB, hrefl w⟩
                refine And.intro ?_ ?_
                · intro V ρ w hB hc hf hd hs
                  have s13 : ρ (.tmp 13) = .slice (some ⟨x13, 0, none⟩) 0 0 := hs 13 (by kernel_rfl)
                  refine Or.inl ⟨(hd 3 (by kernel_rfl) 111 (by kernel_rfl)).1, ?_⟩
                  clear hd hs
                  rw [BigFrame.run_move (.tmp 13) rfl]
                  exact ⟨s13, hB, hrefl w⟩
                refine And.intro ?_ ?_
                · intro V ρ w hB hc hf hd hs
                  have s14 : ρ (.tmp 14) = .slice (some ⟨x13 + 1, 0, none⟩) 0 0 := hs 14 (by kernel_rfl)
                  refine Or.inl ⟨(hd 3 (by kernel_rfl) 111 (by kernel_rfl)).1, ?_⟩
                  clear hd hs
                  rw [BigFrame.run_move (.tmp 14) rfl]
                  exact ⟨s14, hB, hrefl w⟩
                refine And.intro ?_ ?_
                · intro V ρ w hB hc hf hd hs
                  have s112 : ρ (.tmp 112) = .slice (some ⟨x13, 0, none⟩) 0 0 := (hd 4 (by kernel_rfl) 112 (by kernel_rfl)).2.trans (hd 4 (by kernel_rfl) 112 (by kernel_rfl)).1
                  have s113 : ρ (.tmp 113) = .slice (some ⟨x13 + 1, 0, none⟩) 0 0 := (hd 5 (by kernel_rfl) 113 (by kernel_rfl)).2.trans (hd 5 (by kernel_rfl) 113 (by kernel_rfl)).1
                  refine Or.inl ⟨(hd 3 (by kernel_rfl) 111 (by kernel_rfl)).1, ?_⟩
                  clear hd hs
                  refine outcome_enter (w := w) (f := 21) (args := #[.slice (some ⟨x13, 0, none⟩) 0 0, .slice (some ⟨x13 + 1, 0, none⟩) 0 0]) (by simp [go_sem, hc, hf, s112, s113]) ?_
                  refine (same_n hkx _ _ hl8 (R13.out.below hB) (R14.out.below hB)).mono ?_
                  rintro e w' ⟨rfl, Lx⟩
                  exact ⟨_, rfl, rfl, hB.trans (Lx.mono hB.size), Lx⟩
                refine And.intro ?_ ?_
                · intro V ρ w hB hc hf hd hs
                  have s114 : ρ (.tmp 114) = .bool true := (hd 6 (by kernel_rfl) 114 (by kernel_rfl)).2.trans (hd 6 (by kernel_rfl) 114 (by kernel_rfl)).1
                  refine Or.inl ⟨(hd 3 (by kernel_rfl) 111 (by kernel_rfl)).1, ?_⟩
                  clear hd hs
                  refine outcome_value (v := .bool false) ?_ ⟨rfl, hB, hrefl w⟩
                  simp [go_sem, hc, hf, s114]
                refine And.intro ?_ ?_
                · intro V ρ w hB hc hf hd hs
                  have s111 : ρ (.tmp 111) = .bool false := (hd 3 (by kernel_rfl) 111 (by kernel_rfl)).2.trans (hd 3 (by kernel_rfl) 111 (by kernel_rfl)).1
                  have s115 : ρ (.tmp 115) = .bool false := (hd 7 (by kernel_rfl) 115 (by kernel_rfl)).2.trans (hd 7 (by kernel_rfl) 115 (by kernel_rfl)).1
                  clear hd hs
                  refine outcome_value (v := .bool false) ?_ ⟨rfl, hB, hrefl w⟩
                  simp [go_sem, hc, hf, s111, s115]
                refine And.intro ?_ ?_
                · intro V ρ w hB hc hf hd hs
                  have s116 : ρ (.tmp 116) = .bool false := (hd 8 (by kernel_rfl) 116 (by kernel_rfl)).2.trans (hd 8 (by kernel_rfl) 116 (by kernel_rfl)).1
                  clear hd hs
                  rw [BigFrame.run_move (.tmp 116) rfl]
                  exact ⟨s116, hB, hrefl w⟩
                refine And.intro ?_ ?_
                · intro V ρ w hB hc hf hd hs
                  have s5 : ρ (.tmp 5) = .pointer (some ⟨b, 0, none⟩) := hs 5 (by kernel_rfl)
                  refine Or.inl ⟨(hd 9 (by kernel_rfl) 117 (by kernel_rfl)).1, ?_⟩
                  clear hd hs
                  rw [BigFrame.run_move (.tmp 5) rfl]
                  exact ⟨s5, hB, hrefl w⟩
                refine And.intro ?_ ?_
                · intro V ρ w hB hc hf hd hs
                  have s10 : ρ (.tmp 10) = .pointer (some ⟨z10, 0, none⟩) := hs 10 (by kernel_rfl)
                  refine Or.inl ⟨(hd 9 (by kernel_rfl) 117 (by kernel_rfl)).1, ?_⟩
                  clear hd hs
                  refine outcome_value (v := .pointer (some ⟨z10, 1, none⟩)) ?_ ⟨rfl, hB, hrefl w⟩
                  simp [go_sem, hc, hf, s10]
                refine And.intro ?_ ?_
                · intro V ρ w hB hc hf hd hs
                  have s119 : ρ (.tmp 119) = .pointer (some ⟨z10, 1, none⟩) := (hd 11 (by kernel_rfl) 119 (by kernel_rfl)).2.trans (hd 11 (by kernel_rfl) 119 (by kernel_rfl)).1
                  refine Or.inl ⟨(hd 9 (by kernel_rfl) 117 (by kernel_rfl)).1, ?_⟩
                  clear hd hs
                  have cn : w.cell? ⟨z10, 1, none⟩ = some (.int .i64 N) := (hB.cell S9.out.A.lt).trans (S9.out.A.cellv rfl)
                  exact outcome_value (v := .int .i64 N) (by simp [go_sem, hc, hf, s119, cn]) ⟨rfl, hB, hrefl w⟩
                refine And.intro ?_ ?_
                · intro V ρ w hB hc hf hd hs
                  have s118 : ρ (.tmp 118) = .pointer (some ⟨b, 0, none⟩) := (hd 10 (by kernel_rfl) 118 (by kernel_rfl)).2.trans (hd 10 (by kernel_rfl) 118 (by kernel_rfl)).1
                  have s120 : ρ (.tmp 120) = .int .i64 N := (hd 12 (by kernel_rfl) 120 (by kernel_rfl)).2.trans (hd 12 (by kernel_rfl) 120 (by kernel_rfl)).1
                  refine Or.inl ⟨(hd 9 (by kernel_rfl) 117 (by kernel_rfl)).1, ?_⟩
                  clear hd hs
                  refine outcome_enter (w := w) (f := 13) (args := #[.pointer (some ⟨b, 0, none⟩), .int .i64 N]) (by simp [go_sem, hc, hf, s118, s120]) ?_
                  refine (HU1.out w (Fn.below S9.out.M hB (Fn.lt S9.out.M))).mono ?_
                  rintro e w' ⟨rfl, rfl⟩
                  exact ⟨_, rfl, rfl, hB, hrefl _⟩
                refine And.intro ?_ ?_
                · intro V ρ w hB hc hf hd hs
                  have s7 : ρ (.tmp 7) = .pointer (some ⟨r7, 0, none⟩) := hs 7 (by kernel_rfl)
                  refine Or.inl ⟨(hd 9 (by kernel_rfl) 117 (by kernel_rfl)).1, ?_⟩
                  clear hd hs
                  have cm : w.cell? ⟨r7, 0, none⟩ = some (.slice (some ⟨rb, 0, none⟩) m rc) := (hB.cell S9.out.R.lt).trans (S9.out.R.cellv rfl)
                  exact outcome_value (v := .agg #[.slice (some ⟨rb, 0, none⟩) m rc]) (by simp [go_sem, hc, hf, s7, cm]) ⟨rfl, hB, hrefl w⟩
                refine And.intro ?_ ?_
                · intro V ρ w hB hc hf hd hs
                  have s10 : ρ (.tmp 10) = .pointer (some ⟨z10, 0, none⟩) := hs 10 (by kernel_rfl)
                  refine Or.inl ⟨(hd 9 (by kernel_rfl) 117 (by kernel_rfl)).1, ?_⟩
                  clear hd hs
                  refine outcome_value (v := .pointer (some ⟨z10, 1, none⟩)) ?_ ⟨rfl, hB, hrefl w⟩
                  simp [go_sem, hc, hf, s10]
                refine And.intro ?_ ?_
                · intro V ρ w hB hc hf hd hs
                  have s123 : ρ (.tmp 123) = .pointer (some ⟨z10, 1, none⟩) := (hd 15 (by kernel_rfl) 123 (by kernel_rfl)).2.trans (hd 15 (by kernel_rfl) 123 (by kernel_rfl)).1
                  refine Or.inl ⟨(hd 9 (by kernel_rfl) 117 (by kernel_rfl)).1, ?_⟩
                  clear hd hs
                  have cn : w.cell? ⟨z10, 1, none⟩ = some (.int .i64 N) := (hB.cell S9.out.A.lt).trans (S9.out.A.cellv rfl)
                  exact outcome_value (v := .int .i64 N) (by simp [go_sem, hc, hf, s123, cn]) ⟨rfl, hB, hrefl w⟩
                refine And.intro ?_ ?_
                · intro V ρ w hB hc hf hd hs
                  have s122 : ρ (.tmp 122) = .agg #[.slice (some ⟨rb, 0, none⟩) m rc] := (hd 14 (by kernel_rfl) 122 (by kernel_rfl)).2.trans (hd 14 (by kernel_rfl) 122 (by kernel_rfl)).1
                  have s124 : ρ (.tmp 124) = .int .i64 N := (hd 16 (by kernel_rfl) 124 (by kernel_rfl)).2.trans (hd 16 (by kernel_rfl) 124 (by kernel_rfl)).1
                  refine Or.inl ⟨(hd 9 (by kernel_rfl) 117 (by kernel_rfl)).1, ?_⟩
                  clear hd hs
                  refine outcome_enter (w := w) (f := 22) (args := #[.agg #[.slice (some ⟨rb, 0, none⟩) m rc], .int .i64 N]) (by simp [go_sem, hc, hf, s122, s124]) ?_
                  refine (HU2.out w _ (S9.out.V.below hB)).mono ?_
                  rintro e w' ⟨rfl, Lx⟩
                  exact ⟨_, rfl, rfl, hB.trans (Lx.mono hB.size), Lx⟩
                refine And.intro ?_ ?_
                · intro V ρ w hB hc hf hd hs
                  have s121 : ρ (.tmp 121) = .bool u := (hd 13 (by kernel_rfl) 121 (by kernel_rfl)).2.trans (hd 13 (by kernel_rfl) 121 (by kernel_rfl)).1
                  have s125 : ρ (.tmp 125) = .bool u := (hd 17 (by kernel_rfl) 125 (by kernel_rfl)).2.trans (hd 17 (by kernel_rfl) 125 (by kernel_rfl)).1
                  refine Or.inl ⟨(hd 9 (by kernel_rfl) 117 (by kernel_rfl)).1, ?_⟩
                  clear hd hs
                  refine outcome_value (v := .bool false) ?_ ⟨rfl, hB, hrefl w⟩
                  simp [go_sem, hc, hf, s121, s125]
                refine And.intro ?_ ?_
                · intro V ρ w hB hc hf hd hs
                  have s117 : ρ (.tmp 117) = .bool false := (hd 9 (by kernel_rfl) 117 (by kernel_rfl)).2.trans (hd 9 (by kernel_rfl) 117 (by kernel_rfl)).1
                  have s126 : ρ (.tmp 126) = .bool false := (hd 18 (by kernel_rfl) 126 (by kernel_rfl)).2.trans (hd 18 (by kernel_rfl) 126 (by kernel_rfl)).1
                  clear hd hs
                  refine outcome_value (v := .bool false) ?_ ⟨rfl, hB, hrefl w⟩
                  simp [go_sem, hc, hf, s117, s126]
                refine And.intro ?_ ?_
                · intro V ρ w hB hc hf hd hs
                  have s127 : ρ (.tmp 127) = .bool false := (hd 19 (by kernel_rfl) 127 (by kernel_rfl)).2.trans (hd 19 (by kernel_rfl) 127 (by kernel_rfl)).1
                  clear hd hs
                  rw [BigFrame.run_move (.tmp 127) rfl]
                  exact ⟨s127, hB, hrefl w⟩
                refine And.intro ?_ ?_
                · intro V ρ w hB hc hf hd hs
                  have s5 : ρ (.tmp 5) = .pointer (some ⟨b, 0, none⟩) := hs 5 (by kernel_rfl)
                  refine Or.inl ⟨(hd 20 (by kernel_rfl) 128 (by kernel_rfl)).1, ?_⟩
                  clear hd hs
                  rw [BigFrame.run_move (.tmp 5) rfl]
                  exact ⟨s5, hB, hrefl w⟩
                refine And.intro ?_ ?_
                · intro V ρ w hB hc hf hd hs
                  have s129 : ρ (.tmp 129) = .pointer (some ⟨b, 0, none⟩) := (hd 21 (by kernel_rfl) 129 (by kernel_rfl)).2.trans (hd 21 (by kernel_rfl) 129 (by kernel_rfl)).1
                  refine Or.inl ⟨(hd 20 (by kernel_rfl) 128 (by kernel_rfl)).1, ?_⟩
                  clear hd hs
                  refine outcome_enter (w := w) (f := 11) (args := #[.pointer (some ⟨b, 0, none⟩)]) (by simp [go_sem, hc, hf, s129]) ?_
                  refine (free_c (Fn.below S9.out.M hB (Fn.lt S9.out.M)) hm2 HG9.out).mono ?_
                  rintro e w' ⟨rfl, rfl⟩
                  exact ⟨_, rfl, rfl, hB, hrefl _⟩
                refine And.intro ?_ ?_
                · intro V ρ w hB hc hf hd hs
                  have s7 : ρ (.tmp 7) = .pointer (some ⟨r7, 0, none⟩) := hs 7 (by kernel_rfl)
                  refine Or.inl ⟨(hd 20 (by kernel_rfl) 128 (by kernel_rfl)).1, ?_⟩
                  clear hd hs
                  have cm : w.cell? ⟨r7, 0, none⟩ = some (.slice (some ⟨rb, 0, none⟩) m rc) := (hB.cell S9.out.R.lt).trans (S9.out.R.cellv rfl)
                  exact outcome_value (v := .agg #[.slice (some ⟨rb, 0, none⟩) m rc]) (by simp [go_sem, hc, hf, s7, cm]) ⟨rfl, hB, hrefl w⟩
                refine And.intro ?_ ?_
                · intro V ρ w hB hc hf hd hs
                  have s131 : ρ (.tmp 131) = .agg #[.slice (some ⟨rb, 0, none⟩) m rc] := (hd 23 (by kernel_rfl) 131 (by kernel_rfl)).2.trans (hd 23 (by kernel_rfl) 131 (by kernel_rfl)).1
                  refine Or.inl ⟨(hd 20 (by kernel_rfl) 128 (by kernel_rfl)).1, ?_⟩
                  clear hd hs
                  refine outcome_enter (w := w) (f := 23) (args := #[.agg #[.slice (some ⟨rb, 0, none⟩) m rc]]) (by simp [go_sem, hc, hf, s131]) ?_
                  refine (rfree_c (S9.out.V.below hB) hm2).mono ?_
                  rintro e w' ⟨rfl, Lx⟩
                  exact ⟨_, rfl, by rw [cnt_congr HUX.out]; rfl, hB.trans (Lx.mono hB.size), Lx⟩
                refine And.intro ?_ ?_
                · intro V ρ w hB hc hf hd hs
                  have s130 : ρ (.tmp 130) = .int .i64 ((m : Int) - (cnt (used X) m : Nat)) := (hd 22 (by kernel_rfl) 130 (by kernel_rfl)).2.trans (hd 22 (by kernel_rfl) 130 (by kernel_rfl)).1
                  have s132 : ρ (.tmp 132) = .int .i64 ((m : Int) - (cnt (used X) m : Nat)) := (hd 24 (by kernel_rfl) 132 (by kernel_rfl)).2.trans (hd 24 (by kernel_rfl) 132 (by kernel_rfl)).1
                  refine Or.inl ⟨(hd 20 (by kernel_rfl) 128 (by kernel_rfl)).1, ?_⟩
                  clear hd hs
                  refine outcome_value (v := .bool false) ?_ ⟨rfl, hB, hrefl w⟩
                  simp [go_sem, hc, hf, s130, s132]
                refine And.intro ?_ ?_
                · intro V ρ w hB hc hf hd hs
                  have s128 : ρ (.tmp 128) = .bool false := (hd 20 (by kernel_rfl) 128 (by kernel_rfl)).2.trans (hd 20 (by kernel_rfl) 128 (by kernel_rfl)).1
                  have s133 : ρ (.tmp 133) = .bool false := (hd 25 (by kernel_rfl) 133 (by kernel_rfl)).2.trans (hd 25 (by kernel_rfl) 133 (by kernel_rfl)).1
                  clear hd hs
                  refine outcome_value (v := .bool false) ?_ ⟨rfl, hB, hrefl w⟩
                  simp [go_sem, hc, hf, s128, s133]
                refine And.intro ?_ ?_
                · intro V ρ w hB hc hf hd hs
                  have s134 : ρ (.tmp 134) = .bool false := (hd 26 (by kernel_rfl) 134 (by kernel_rfl)).2.trans (hd 26 (by kernel_rfl) 134 (by kernel_rfl)).1
                  clear hd hs
                  rw [BigFrame.run_move (.tmp 134) rfl]
                  exact ⟨s134, hB, hrefl w⟩
                refine And.intro ?_ ?_
                · intro V ρ w hB hc hf hd hs
                  have s5 : ρ (.tmp 5) = .pointer (some ⟨b, 0, none⟩) := hs 5 (by kernel_rfl)
                  refine Or.inl ⟨(hd 27 (by kernel_rfl) 135 (by kernel_rfl)).1, ?_⟩
                  clear hd hs
                  rw [BigFrame.run_move (.tmp 5) rfl]
                  exact ⟨s5, hB, hrefl w⟩
                refine And.intro ?_ ?_
                · intro V ρ w hB hc hf hd hs
                  have s136 : ρ (.tmp 136) = .pointer (some ⟨b, 0, none⟩) := (hd 28 (by kernel_rfl) 136 (by kernel_rfl)).2.trans (hd 28 (by kernel_rfl) 136 (by kernel_rfl)).1
                  refine Or.inl ⟨(hd 27 (by kernel_rfl) 135 (by kernel_rfl)).1, ?_⟩
                  clear hd hs
                  refine outcome_enter (w := w) (f := 16) (args := #[.pointer (some ⟨b, 0, none⟩)]) (by simp [go_sem, hc, hf, s136]) ?_
                  refine (bytes_c (Fn.below S9.out.M hB (Fn.lt S9.out.M))).mono ?_
                  rintro e w' ⟨rfl, F, Lx⟩
                  exact ⟨_, rfl, Eq.mpr (if_pos rfl) ⟨_, rfl, F.lt, bts_of_fn F⟩, hB.trans (Lx.mono hB.size), Lx⟩
                refine And.intro ?_ ?_
                · intro V ρ w hB hc hf hd hs
                  obtain ⟨f137, s137⟩ := hd 29 (by kernel_rfl) 137 (by kernel_rfl)
                  refine Or.inl ⟨(hd 27 (by kernel_rfl) 135 (by kernel_rfl)).1, ?_⟩
                  clear hd hs
                  obtain ⟨g', hv, hg, hbt⟩ := (Eq.mp (if_pos rfl) f137)
                  rw [hv] at s137
                  exact outcome_value (v := .string (strOf (bt X) 64)) (run_conv rfl s137 (conv_bts hbt)) ⟨rfl, hB, hrefl w⟩
                refine And.intro ?_ ?_
                · intro V ρ w hB hc hf hd hs
                  have s7 : ρ (.tmp 7) = .pointer (some ⟨r7, 0, none⟩) := hs 7 (by kernel_rfl)
                  refine Or.inl ⟨(hd 27 (by kernel_rfl) 135 (by kernel_rfl)).1, ?_⟩
                  clear hd hs
                  have cm : w.cell? ⟨r7, 0, none⟩ = some (.slice (some ⟨rb, 0, none⟩) m rc) := (hB.cell S9.out.R.lt).trans (S9.out.R.cellv rfl)
                  exact outcome_value (v := .agg #[.slice (some ⟨rb, 0, none⟩) m rc]) (by simp [go_sem, hc, hf, s7, cm]) ⟨rfl, hB, hrefl w⟩
                refine And.intro ?_ ?_
                · intro V ρ w hB hc hf hd hs
                  have s139 : ρ (.tmp 139) = .agg #[.slice (some ⟨rb, 0, none⟩) m rc] := (hd 31 (by kernel_rfl) 139 (by kernel_rfl)).2.trans (hd 31 (by kernel_rfl) 139 (by kernel_rfl)).1
                  refine Or.inl ⟨(hd 27 (by kernel_rfl) 135 (by kernel_rfl)).1, ?_⟩
                  clear hd hs
                  refine outcome_enter (w := w) (f := 24) (args := #[.agg #[.slice (some ⟨rb, 0, none⟩) m rc]]) (by simp [go_sem, hc, hf, s139]) ?_
                  refine (rbytes_c (S9.out.V.below hB) hm2).mono ?_
                  rintro e w' ⟨g9, rfl, F, Lx⟩
                  exact ⟨_, rfl, Eq.mpr (if_neg (by decide)) (Eq.mpr (if_pos rfl) ⟨_, rfl, F.lt, bts_of_fn F⟩), hB.trans (Lx.mono hB.size), Lx⟩
                refine And.intro ?_ ?_
                · intro V ρ w hB hc hf hd hs
                  obtain ⟨f140, s140⟩ := hd 32 (by kernel_rfl) 140 (by kernel_rfl)
                  refine Or.inl ⟨(hd 27 (by kernel_rfl) 135 (by kernel_rfl)).1, ?_⟩
                  clear hd hs
                  obtain ⟨g', hv, hg, hbt⟩ := (Eq.mp (if_pos rfl) (Eq.mp (if_neg (by decide)) f140))
                  rw [hv] at s140
                  exact outcome_value (v := .string (strOf (bt X) 64)) (run_conv rfl s140 ((conv_bts hbt).trans (by rw [strOf_congr (n := 64) (fun j hj => rbt_bt HG9.out HUX.out j hj)]))) ⟨rfl, hB, hrefl w⟩
                refine And.intro ?_ ?_
                · intro V ρ w hB hc hf hd hs
                  have s138 : ρ (.tmp 138) = .string (strOf (bt X) 64) := (hd 30 (by kernel_rfl) 138 (by kernel_rfl)).2.trans (hd 30 (by kernel_rfl) 138 (by kernel_rfl)).1
                  have s141 : ρ (.tmp 141) = .string (strOf (bt X) 64) := (hd 33 (by kernel_rfl) 141 (by kernel_rfl)).2.trans (hd 33 (by kernel_rfl) 141 (by kernel_rfl)).1
                  refine Or.inl ⟨(hd 27 (by kernel_rfl) 135 (by kernel_rfl)).1, ?_⟩
                  clear hd hs
                  refine outcome_value (v := .bool false) ?_ ⟨rfl, hB, hrefl w⟩
                  simp [go_sem, hc, hf, s138, s141]
                refine And.intro ?_ ?_
                · intro V ρ w hB hc hf hd hs
                  have s135 : ρ (.tmp 135) = .bool false := (hd 27 (by kernel_rfl) 135 (by kernel_rfl)).2.trans (hd 27 (by kernel_rfl) 135 (by kernel_rfl)).1
                  have s142 : ρ (.tmp 142) = .bool false := (hd 34 (by kernel_rfl) 142 (by kernel_rfl)).2.trans (hd 34 (by kernel_rfl) 142 (by kernel_rfl)).1
                  clear hd hs
                  refine outcome_value (v := .bool false) ?_ ⟨rfl, hB, hrefl w⟩
                  simp [go_sem, hc, hf, s135, s142]
                refine And.intro ?_ ?_
                · intro V ρ w hB hc hf hd hs
                  have s143 : ρ (.tmp 143) = .bool false := (hd 35 (by kernel_rfl) 143 (by kernel_rfl)).2.trans (hd 35 (by kernel_rfl) 143 (by kernel_rfl)).1
                  clear hd hs
                  rw [BigFrame.run_move (.tmp 143) rfl]
                  exact ⟨s143, hB, hrefl w⟩
                refine And.intro ?_ ?_
                · intro V ρ w hB hc hf hd hs
                  have s5 : ρ (.tmp 5) = .pointer (some ⟨b, 0, none⟩) := hs 5 (by kernel_rfl)
                  refine Or.inl ⟨(hd 36 (by kernel_rfl) 144 (by kernel_rfl)).1, ?_⟩
                  clear hd hs
                  rw [BigFrame.run_move (.tmp 5) rfl]
                  exact ⟨s5, hB, hrefl w⟩
                refine And.intro ?_ ?_
                · intro V ρ w hB hc hf hd hs
                  have s145 : ρ (.tmp 145) = .pointer (some ⟨b, 0, none⟩) := (hd 37 (by kernel_rfl) 145 (by kernel_rfl)).2.trans (hd 37 (by kernel_rfl) 145 (by kernel_rfl)).1
                  refine Or.inl ⟨(hd 36 (by kernel_rfl) 144 (by kernel_rfl)).1, ?_⟩
                  clear hd hs
                  refine outcome_enter (w := w) (f := 25) (args := #[.pointer (some ⟨b, 0, none⟩)]) (by simp [go_sem, hc, hf, s145]) ?_
                  refine (len_c (Fn.below S9.out.M hB (Fn.lt S9.out.M))).mono ?_
                  rintro e w' ⟨rfl, rfl⟩
                  exact ⟨_, rfl, rfl, hB, hrefl _⟩
                refine And.intro ?_ ?_
                · intro V ρ w hB hc hf hd hs
                  have s0 : ρ (.tmp 0) = .int .i64 (m : Int) := hs 0 (by kernel_rfl)
                  refine Or.inl ⟨(hd 36 (by kernel_rfl) 144 (by kernel_rfl)).1, ?_⟩
                  clear hd hs
                  rw [BigFrame.run_move (.tmp 0) rfl]
                  exact ⟨s0, hB, hrefl w⟩
                refine And.intro ?_ ?_
                · intro V ρ w hB hc hf hd hs
                  have s146 : ρ (.tmp 146) = .int .i64 (m : Int) := (hd 38 (by kernel_rfl) 146 (by kernel_rfl)).2.trans (hd 38 (by kernel_rfl) 146 (by kernel_rfl)).1
                  have s147 : ρ (.tmp 147) = .int .i64 (m : Int) := (hd 39 (by kernel_rfl) 147 (by kernel_rfl)).2.trans (hd 39 (by kernel_rfl) 147 (by kernel_rfl)).1
                  refine Or.inl ⟨(hd 36 (by kernel_rfl) 144 (by kernel_rfl)).1, ?_⟩
                  clear hd hs
                  refine outcome_value (v := .bool false) ?_ ⟨rfl, hB, hrefl w⟩
                  simp [go_sem, hc, hf, s146, s147]
                refine And.intro ?_ ?_
                · intro V ρ w hB hc hf hd hs
                  have s144 : ρ (.tmp 144) = .bool false := (hd 36 (by kernel_rfl) 144 (by kernel_rfl)).2.trans (hd 36 (by kernel_rfl) 144 (by kernel_rfl)).1
                  have s148 : ρ (.tmp 148) = .bool false := (hd 40 (by kernel_rfl) 148 (by kernel_rfl)).2.trans (hd 40 (by kernel_rfl) 148 (by kernel_rfl)).1
                  clear hd hs
                  refine outcome_value (v := .bool false) ?_ ⟨rfl, hB, hrefl w⟩
                  simp [go_sem, hc, hf, s144, s148]
                refine And.intro ?_ ?_
                · intro V ρ w hB hc hf hd hs
                  have s149 : ρ (.tmp 149) = .bool false := (hd 41 (by kernel_rfl) 149 (by kernel_rfl)).2.trans (hd 41 (by kernel_rfl) 149 (by kernel_rfl)).1
                  clear hd hs
                  rw [BigFrame.run_move (.tmp 149) rfl]
                  exact ⟨s149, hB, hrefl w⟩
                refine And.intro ?_ ?_
                · intro V ρ w hB hc hf hd hs
                  have s11 : ρ (.tmp 11) = .pointer (some ⟨c, 0, none⟩) := hs 11 (by kernel_rfl)
                  refine Or.inl ⟨(hd 42 (by kernel_rfl) 150 (by kernel_rfl)).1, ?_⟩
                  clear hd hs
                  rw [BigFrame.run_move (.tmp 11) rfl]
                  exact ⟨s11, hB, hrefl w⟩
                refine And.intro ?_ ?_
                · intro V ρ w hB hc hf hd hs
                  have s151 : ρ (.tmp 151) = .pointer (some ⟨c, 0, none⟩) := (hd 43 (by kernel_rfl) 151 (by kernel_rfl)).2.trans (hd 43 (by kernel_rfl) 151 (by kernel_rfl)).1
                  refine Or.inl ⟨(hd 42 (by kernel_rfl) 150 (by kernel_rfl)).1, ?_⟩
                  clear hd hs
                  refine outcome_enter (w := w) (f := 16) (args := #[.pointer (some ⟨c, 0, none⟩)]) (by simp [go_sem, hc, hf, s151]) ?_
                  refine (bytes_c (Fn.below S9.out.C hB (Fn.lt S9.out.C))).mono ?_
                  rintro e w' ⟨rfl, F, Lx⟩
                  exact ⟨_, rfl, Eq.mpr (if_neg (by decide)) (Eq.mpr (if_neg (by decide)) (Eq.mpr (if_pos rfl) ⟨_, rfl, F.lt, bts_of_fn F⟩)), hB.trans (Lx.mono hB.size), Lx⟩
                refine And.intro ?_ ?_
                · intro V ρ w hB hc hf hd hs
                  obtain ⟨f152, s152⟩ := hd 44 (by kernel_rfl) 152 (by kernel_rfl)
                  refine Or.inl ⟨(hd 42 (by kernel_rfl) 150 (by kernel_rfl)).1, ?_⟩
                  clear hd hs
                  obtain ⟨g', hv, hg, hbt⟩ := (Eq.mp (if_pos rfl) (Eq.mp (if_neg (by decide)) (Eq.mp (if_neg (by decide)) f152)))
                  rw [hv] at s152
                  exact outcome_value (v := .string (strOf (bt X) 64)) (run_conv rfl s152 (conv_bts hbt)) ⟨rfl, hB, hrefl w⟩
                refine And.intro ?_ ?_
                · intro V ρ w hB hc hf hd hs
                  have s12 : ρ (.tmp 12) = .string (strOf (bt X) 64) := hs 12 (by kernel_rfl)
                  refine Or.inl ⟨(hd 42 (by kernel_rfl) 150 (by kernel_rfl)).1, ?_⟩
                  clear hd hs
                  rw [BigFrame.run_move (.tmp 12) rfl]
                  exact ⟨s12, hB, hrefl w⟩
                refine And.intro ?_ ?_
                · intro V ρ w hB hc hf hd hs
                  have s153 : ρ (.tmp 153) = .string (strOf (bt X) 64) := (hd 45 (by kernel_rfl) 153 (by kernel_rfl)).2.trans (hd 45 (by kernel_rfl) 153 (by kernel_rfl)).1
                  have s154 : ρ (.tmp 154) = .string (strOf (bt X) 64) := (hd 46 (by kernel_rfl) 154 (by kernel_rfl)).2.trans (hd 46 (by kernel_rfl) 154 (by kernel_rfl)).1
                  refine Or.inl ⟨(hd 42 (by kernel_rfl) 150 (by kernel_rfl)).1, ?_⟩
                  clear hd hs
                  refine outcome_value (v := .bool false) ?_ ⟨rfl, hB, hrefl w⟩
                  simp [go_sem, hc, hf, s153, s154]
                refine And.intro ?_ ?_
                · intro V ρ w hB hc hf hd hs
                  have s150 : ρ (.tmp 150) = .bool false := (hd 42 (by kernel_rfl) 150 (by kernel_rfl)).2.trans (hd 42 (by kernel_rfl) 150 (by kernel_rfl)).1
                  have s155 : ρ (.tmp 155) = .bool false := (hd 47 (by kernel_rfl) 155 (by kernel_rfl)).2.trans (hd 47 (by kernel_rfl) 155 (by kernel_rfl)).1
                  clear hd hs
                  refine outcome_value (v := .bool false) ?_ ⟨rfl, hB, hrefl w⟩
                  simp [go_sem, hc, hf, s150, s155]
                exact trivial
              case hend =>
                intro V w10 hB10 hV
                have vl : V 48 = .bool false := hV 48 (by decide)
                simp only [lexF, Act.put, List.setIfInBounds_toArray, List.set_cons_zero, List.set_cons_succ, vl]
                clear hV
                go_wp2
                go_roundg (len - (i + 1))
                case measure => omega
                case rel => exact ⟨i + 1, X, U, rb, rc, by go_num, rfl, by omega, hid (Fn.below S9.out.M hB10 (Fn.lt S9.out.M)), HG9, HL9, hid (S9.out.R.of_block (hB10.block _ S9.out.R.lt)), hid (S9.out.V.below hB10), HUX, hid (S9.out.L.trans (hB10.mono S9.out.L.size))⟩
      · have HTr := hid (HT.out.below HL.out h0)
        have hex : (¬ (i : Int) < len) ∨ ((i : Int) < len ∧ ¬ (i : Int) < 60) := by omega
        clear hil
        rcases hex with h60 | ⟨h61, h60⟩
        all_goals
          go_wp2_with (go_at_call 9; refine (alive_c HTr.out).mono ?_; rintro e w9 ⟨rfl, Lx⟩; have L9 := hid (HL.out.trans (Lx.mono HL.out.size)); clear Lx)
          go_ret
          exact ⟨rfl, L9.out⟩
end Go.Proofs.YtdmlldhlfofegaaDoor
