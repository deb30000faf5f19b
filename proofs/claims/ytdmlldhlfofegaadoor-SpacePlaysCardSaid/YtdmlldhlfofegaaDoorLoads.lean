/- The walk of SpaceLoad. -/
import Derived.Test.YtdmlldhlfofegaaDoorOwn
namespace Go.Proofs.YtdmlldhlfofegaaDoor
open Go.RowKit

theorem cnt_congr {U U' : Nat → Bool} : ∀ {n : Nat}, (∀ i, i < n → U i = U' i) → cnt U n = cnt U' n
  | 0, _ => rfl
  | n + 1, h => by
    show cnt U n + (U n).toNat = cnt U' n + (U' n).toNat
    rw [cnt_congr (fun i hi => h i (by omega)), h n (by omega)]
set_option maxRecDepth 100000 in
set_option linter.unusedSimpArgs false in
set_option maxHeartbeats 8000000 in
theorem load_law {w : World} (T : Tab w) (p : Option Addr) (len cap : Nat) (B : Nat → W8) (n : Int) (hl : len ≤ maxLen) (hb : Bin w p len cap B) : Calls Tryd.prog 6 #[.slice p len cap, .int .i64 n] w fun e w' => e = .returned (.bool true) ∧ Below w.heap.size w w' := by
  obtain ⟨i0, hi, hz0, hz1, hz2⟩ := info_parts info5
  have h0 := T.lt
  have HT := hid T
  have HBI := hid hb
  have hl' : (len : Int) ≤ 9223372036854775807 := by simp only [maxLen] at hl; omega
  have hrefl : ∀ w : World, Below w.heap.size w w := fun w => Below.refl _ _
  have HRF := hid hrefl
  clear T hb hrefl hl
  go_enter Tryd.func6, Tryd.ntmps6
  by_cases h80 : 80 < len
  · go_wp2_with (go_at_call 9; refine (alive_c HT.out).mono ?_; rintro e w2 ⟨rfl, Lx⟩; have L2 := hid Lx; clear Lx)
    go_ret
    exact ⟨rfl, L2.out⟩
  · have O0 := hid (show (w.alloc (.cells #[] 5)).ownsRow w.heap.size 5 1 (.slice (some ⟨w.heap.size, 0, none⟩) 0 0) 0 [] from row_empty (Blk.new w #[] 5) (Nat.le_refl _))
    have L0 := hid ((Below.refl w.heap.size w).alloc (Nat.le_refl _) (.cells #[] 5))
    have V0 := hid (HBI.out.below L0.out)
    go_upto_region 3 with fail
    go_cut [5] from 14 to 16 (fun v5 wr => Hid (wr.ownsRow w.heap.size 5 1 v5 len (bvs B len)) ∧ Hid (Below w.heap.size w wr))
    case first =>
      by_cases hl0 : len = 0
      · subst hl0
        cases p with
        | none =>
          go_wp2_with (at_builtin; refine wpList_append_nil rfl (.tmp 14) (.tmp 15) rfl (some ⟨w.heap.size, 0, none⟩) 0 0 cap rfl rfl (Nat.le_refl _) ?_)
          go_meet
          case rel => exact ⟨O0, L0⟩
        | some ad =>
          go_wp2_with (at_builtin; refine wpList_append_own_at _ rfl (.tmp 14) (.tmp 15) 44 rfl w.heap.size 5 i0 (.int .u8 0) 1 1 rfl hi hz0 hz1 hz2 rfl (by decide) _ 0 [] rfl O0.out ad 0 cap [] rfl rfl (by intro j v hv; simp at hv) (by intro u hu; cases hu) (by unfold maxLen; omega) (by omega) (by simp) ?_; intro v5 w5 hown5 hg5 _ _; have M5 := hid (Mod.of_grown (S := fun kk => w.heap.size ≤ kk) hg5 (fun kk hk => (own_lt O0.out kk hk).1)); have O5 := hid hown5; clear hown5 hg5)
          go_meet
          case rel => exact ⟨hid (by have := O5.out; rwa [Nat.zero_add, List.nil_append] at this), hid (L0.out.trans (M5.out.below (by simp) (fun c hc h => by omega)))⟩
      · obtain ⟨ab, ao, rfl, hab, _, _, _⟩ := HBI.out (by omega)
        have VB := hid (show Bts (w.alloc (.cells #[] 5)) ab ao len B from by
          obtain ⟨_, _, e, _, _, _, hS⟩ := V0.out (by omega)
          cases e; exact hS)
        go_wp2_with (at_builtin; refine wpList_append_own_at _ rfl (.tmp 14) (.tmp 15) 44 rfl w.heap.size 5 i0 (.int .u8 0) 1 1 rfl hi hz0 hz1 hz2 rfl (by decide) _ 0 [] rfl O0.out ⟨ab, ao, none⟩ len cap (bvs B len) rfl (by rw [bvs_len]; omega) (bvs_at VB.out) (bvs_one B len) (by unfold maxLen; omega) (by omega) (by simp) ?_; intro v5 w5 hown5 hg5 _ _; have M5 := hid (Mod.of_grown (S := fun kk => w.heap.size ≤ kk) hg5 (fun kk hk => (own_lt O0.out kk hk).1)); have O5 := hid hown5; clear hown5 hg5)
        go_meet
        case rel => exact ⟨hid (by have := O5.out; rwa [Nat.zero_add, List.nil_append] at this), hid (L0.out.trans (M5.out.below (by simp) (fun c hc h => by omega)))⟩
    case rest =>
      obtain ⟨O1, L1⟩ := hcut
      obtain ⟨p5, c5, rfl, hbi⟩ := own_bin O1.out
      have B1 := hid hbi
      have V1 := hid (HBI.out.below L1.out)
      have hwc := L1.out.size
      clear hbi O0 L0 V0 hi hz0 hz1 hz2
      by_cases hn : n < 16 ∨ 512 < n
      · skip
        go_upto_region 6 with first
          | (go_at_call 26; refine (load_arg _ _ n hn).mono ?_; rintro e w' ⟨rfl, rfl⟩)
          | (go_at_call 27; refine (rload_arg _ _ n hn).mono ?_; rintro e w8 ⟨rfl, Lx⟩; have L8 := hid Lx; clear Lx)
        have L9a := hid (L8.out.alloc (by have := L8.out.size; omega) (.cells #[.slice none 0 0] 41))
        obtain ⟨w9, hw9⟩ : ∃ w9, w9 = w8.alloc (.cells #[.slice none 0 0] 41) := ⟨_, rfl⟩
        rw [← hw9]
        rw [← hw9] at L9a
        clear hw9
        have cv1 : (convert 44 9 (.slice p5 len c5)).run Tryd.prog w9 = .ok (.string (strOf B len)) w9 := conv_bin (B1.out.below L9a.out)
        have cv2 : (convert 44 9 (.slice p len cap)).run Tryd.prog w9 = .ok (.string (strOf B len)) w9 := conv_bin (V1.out.below L9a.out)
        have L9 := hid (show Below w.heap.size w w9 from L1.out.trans (L9a.out.mono hwc))
        have T9 := hid (HT.out.below L9.out h0)
        go_upto_region 8 with fail
        have hrefl := HRF.out
        refine region_rel (n := 72) (B := fun w' => Below w9.heap.size w9 w') (E := fun w w' => Below w.heap.size w w') (φ := (fun (k : Nat) (v : Value) (w : World) => v = ([.bool true, .bool true, .int .i64 1, .bool true, .bool true, undef, undef, undef, undef, undef, undef, undef, undef, undef, undef, undef, undef, undef, undef, undef, undef, undef, undef, undef, .bool true, .bool true, .bool true] : List Value).getD k undef)) (by kernel_rfl) (by kernel_rfl) (by kernel_rfl) (by kernel_rfl) ?mono hrefl ((Below.refl _ _).drew) ?hop ?hend
        case mono =>
          intro j v w w' h hE
          exact h
        case hop =>
          refine And.intro ?_ ?_
          · intro V ρ w hB hc hf hd hs
            clear hd hs
            refine outcome_enter (w := w) (f := 9) (args := #[]) (by simp [go_sem, hc, hf]) ?_
            refine (alive_c (T9.out.below hB T9.out.lt)).mono ?_
            rintro e w' ⟨rfl, Lx⟩
            exact ⟨_, rfl, rfl, hB.trans (Lx.mono hB.size), Lx⟩
          refine And.intro ?_ ?_
          · intro V ρ w hB hc hf hd hs
            have s46 : ρ (.tmp 46) = .bool true := (hd 0 (by kernel_rfl) 46 (by kernel_rfl)).2.trans (hd 0 (by kernel_rfl) 46 (by kernel_rfl)).1
            clear hd hs
            rw [BigFrame.run_move (.tmp 46) rfl]
            exact ⟨s46, hB, hrefl w⟩
          refine And.intro ?_ ?_
          · intro V ρ w hB hc hf hd hs
            have s7 : ρ (.tmp 7) = .int .i64 1 := hs 7 (by kernel_rfl)
            refine Or.inl ⟨(hd 1 (by kernel_rfl) 47 (by kernel_rfl)).1, ?_⟩
            clear hd hs
            rw [BigFrame.run_move (.tmp 7) rfl]
            exact ⟨s7, hB, hrefl w⟩
          refine And.intro ?_ ?_
          · intro V ρ w hB hc hf hd hs
            have s48 : ρ (.tmp 48) = .int .i64 1 := (hd 2 (by kernel_rfl) 48 (by kernel_rfl)).2.trans (hd 2 (by kernel_rfl) 48 (by kernel_rfl)).1
            refine Or.inl ⟨(hd 1 (by kernel_rfl) 47 (by kernel_rfl)).1, ?_⟩
            clear hd hs
            refine outcome_value (v := .bool true) ?_ ⟨rfl, hB, hrefl w⟩
            simp [go_sem, hc, hf, s48]
          refine And.intro ?_ ?_
          · intro V ρ w hB hc hf hd hs
            have s49 : ρ (.tmp 49) = .bool true := (hd 3 (by kernel_rfl) 49 (by kernel_rfl)).2.trans (hd 3 (by kernel_rfl) 49 (by kernel_rfl)).1
            refine Or.inl ⟨(hd 1 (by kernel_rfl) 47 (by kernel_rfl)).1, ?_⟩
            clear hd hs
            rw [BigFrame.run_move (.tmp 49) rfl]
            exact ⟨s49, hB, hrefl w⟩
          refine And.intro ?_ ?_
          · intro V ρ w hB hc hf hd hs
            have hgv : V 4 = .bool true := (hd 4 (by kernel_rfl) 50 (by kernel_rfl)).1
            exact Or.inr ⟨(by rw [hgv]; intro h; cases h), rfl⟩
          refine And.intro ?_ ?_
          · intro V ρ w hB hc hf hd hs
            have hgv : V 4 = .bool true := (hd 4 (by kernel_rfl) 50 (by kernel_rfl)).1
            exact Or.inr ⟨(by rw [hgv]; intro h; cases h), rfl⟩
          refine And.intro ?_ ?_
          · intro V ρ w hB hc hf hd hs
            have hgv : V 4 = .bool true := (hd 4 (by kernel_rfl) 50 (by kernel_rfl)).1
            exact Or.inr ⟨(by rw [hgv]; intro h; cases h), rfl⟩
          refine And.intro ?_ ?_
          · intro V ρ w hB hc hf hd hs
            have hgv : V 4 = .bool true := (hd 4 (by kernel_rfl) 50 (by kernel_rfl)).1
            exact Or.inr ⟨(by rw [hgv]; intro h; cases h), rfl⟩
          refine And.intro ?_ ?_
          · intro V ρ w hB hc hf hd hs
            have hgv : V 4 = .bool true := (hd 4 (by kernel_rfl) 50 (by kernel_rfl)).1
            exact Or.inr ⟨(by rw [hgv]; intro h; cases h), rfl⟩
          refine And.intro ?_ ?_
          · intro V ρ w hB hc hf hd hs
            have hgv : V 4 = .bool true := (hd 4 (by kernel_rfl) 50 (by kernel_rfl)).1
            exact Or.inr ⟨(by rw [hgv]; intro h; cases h), rfl⟩
          refine And.intro ?_ ?_
          · intro V ρ w hB hc hf hd hs
            have hgv : V 4 = .bool true := (hd 4 (by kernel_rfl) 50 (by kernel_rfl)).1
            exact Or.inr ⟨(by rw [hgv]; intro h; cases h), rfl⟩
          refine And.intro ?_ ?_
          · intro V ρ w hB hc hf hd hs
            have hgv : V 11 = undef := (hd 11 (by kernel_rfl) 57 (by kernel_rfl)).1
            exact Or.inr ⟨(by rw [hgv]; intro h; cases h), rfl⟩
          refine And.intro ?_ ?_
          · intro V ρ w hB hc hf hd hs
            have hgv : V 11 = undef := (hd 11 (by kernel_rfl) 57 (by kernel_rfl)).1
            exact Or.inr ⟨(by rw [hgv]; intro h; cases h), rfl⟩
          refine And.intro ?_ ?_
          · intro V ρ w hB hc hf hd hs
            have hgv : V 11 = undef := (hd 11 (by kernel_rfl) 57 (by kernel_rfl)).1
            exact Or.inr ⟨(by rw [hgv]; intro h; cases h), rfl⟩
          refine And.intro ?_ ?_
          · intro V ρ w hB hc hf hd hs
            have hgv : V 11 = undef := (hd 11 (by kernel_rfl) 57 (by kernel_rfl)).1
            exact Or.inr ⟨(by rw [hgv]; intro h; cases h), rfl⟩
          refine And.intro ?_ ?_
          · intro V ρ w hB hc hf hd hs
            have hgv : V 4 = .bool true := (hd 4 (by kernel_rfl) 50 (by kernel_rfl)).1
            exact Or.inr ⟨(by rw [hgv]; intro h; cases h), rfl⟩
          refine And.intro ?_ ?_
          · intro V ρ w hB hc hf hd hs
            have hgv : V 4 = .bool true := (hd 4 (by kernel_rfl) 50 (by kernel_rfl)).1
            exact Or.inr ⟨(by rw [hgv]; intro h; cases h), rfl⟩
          refine And.intro ?_ ?_
          · intro V ρ w hB hc hf hd hs
            have hgv : V 17 = undef := (hd 17 (by kernel_rfl) 63 (by kernel_rfl)).1
            exact Or.inr ⟨(by rw [hgv]; intro h; cases h), rfl⟩
          refine And.intro ?_ ?_
          · intro V ρ w hB hc hf hd hs
            have hgv : V 17 = undef := (hd 17 (by kernel_rfl) 63 (by kernel_rfl)).1
            exact Or.inr ⟨(by rw [hgv]; intro h; cases h), rfl⟩
          refine And.intro ?_ ?_
          · intro V ρ w hB hc hf hd hs
            have hgv : V 17 = undef := (hd 17 (by kernel_rfl) 63 (by kernel_rfl)).1
            exact Or.inr ⟨(by rw [hgv]; intro h; cases h), rfl⟩
          refine And.intro ?_ ?_
          · intro V ρ w hB hc hf hd hs
            have hgv : V 17 = undef := (hd 17 (by kernel_rfl) 63 (by kernel_rfl)).1
            exact Or.inr ⟨(by rw [hgv]; intro h; cases h), rfl⟩
          refine And.intro ?_ ?_
          · intro V ρ w hB hc hf hd hs
            have hgv : V 17 = undef := (hd 17 (by kernel_rfl) 63 (by kernel_rfl)).1
            exact Or.inr ⟨(by rw [hgv]; intro h; cases h), rfl⟩
          refine And.intro ?_ ?_
          · intro V ρ w hB hc hf hd hs
            have hgv : V 4 = .bool true := (hd 4 (by kernel_rfl) 50 (by kernel_rfl)).1
            exact Or.inr ⟨(by rw [hgv]; intro h; cases h), rfl⟩
          refine And.intro ?_ ?_
          · intro V ρ w hB hc hf hd hs
            have s50 : ρ (.tmp 50) = .bool true := (hd 4 (by kernel_rfl) 50 (by kernel_rfl)).2.trans (hd 4 (by kernel_rfl) 50 (by kernel_rfl)).1
            have s69 : ρ (.tmp 69) = undef := (hd 23 (by kernel_rfl) 69 (by kernel_rfl)).2.trans (hd 23 (by kernel_rfl) 69 (by kernel_rfl)).1
            refine Or.inl ⟨(hd 1 (by kernel_rfl) 47 (by kernel_rfl)).1, ?_⟩
            clear hd hs
            refine outcome_value (v := .bool true) ?_ ⟨rfl, hB, hrefl w⟩
            simp [go_sem, hc, hf, s50, s69]
          refine And.intro ?_ ?_
          · intro V ρ w hB hc hf hd hs
            have s47 : ρ (.tmp 47) = .bool true := (hd 1 (by kernel_rfl) 47 (by kernel_rfl)).2.trans (hd 1 (by kernel_rfl) 47 (by kernel_rfl)).1
            have s70 : ρ (.tmp 70) = .bool true := (hd 24 (by kernel_rfl) 70 (by kernel_rfl)).2.trans (hd 24 (by kernel_rfl) 70 (by kernel_rfl)).1
            clear hd hs
            refine outcome_value (v := .bool true) ?_ ⟨rfl, hB, hrefl w⟩
            simp [go_sem, hc, hf, s47, s70]
          refine And.intro ?_ ?_
          · intro V ρ w hB hc hf hd hs
            have s71 : ρ (.tmp 71) = .bool true := (hd 25 (by kernel_rfl) 71 (by kernel_rfl)).2.trans (hd 25 (by kernel_rfl) 71 (by kernel_rfl)).1
            clear hd hs
            rw [BigFrame.run_assign (.tmp 71) rfl]
            exact ⟨s71, hB, hrefl w⟩
          exact trivial
        case hend =>
          intro V w10 hB10 hV
          have vl : V 26 = .bool true := hV 26 (by decide)
          simp only [lexF, Act.put, List.setIfInBounds_toArray, List.set_cons_zero, List.set_cons_succ, vl]
          clear hV
          go_wp2
          go_ret
          exact ⟨rfl, L9.out.trans (hB10.mono L9.out.size)⟩
      · obtain ⟨m, rfl⟩ : ∃ m : Nat, n = m := ⟨n.toNat, by omega⟩
        have hm1 : 16 ≤ m := by omega
        have hm2 : m ≤ 512 := by omega
        clear hn
        by_cases h64 : len ≠ 64
        · skip
          go_upto_region 6 with first
            | (go_at_call 26; refine (load_len _ _ _ _ m hm1 hm2 h64).mono ?_; rintro e w7 ⟨rfl, Lx⟩; have L7 := hid Lx; clear Lx)
            | (go_at_call 27; refine (rload_len _ _ _ _ m hm1 hm2 h64).mono ?_; rintro e w8 ⟨rfl, Lx⟩; have L8 := hid (L7.out.trans (Lx.mono L7.out.size)); clear Lx)
          have L9a := hid (L8.out.alloc (by have := L8.out.size; omega) (.cells #[.slice none 0 0] 41))
          obtain ⟨w9, hw9⟩ : ∃ w9, w9 = w8.alloc (.cells #[.slice none 0 0] 41) := ⟨_, rfl⟩
          rw [← hw9]
          rw [← hw9] at L9a
          clear hw9
          have cv1 : (convert 44 9 (.slice p5 len c5)).run Tryd.prog w9 = .ok (.string (strOf B len)) w9 := conv_bin (B1.out.below L9a.out)
          have cv2 : (convert 44 9 (.slice p len cap)).run Tryd.prog w9 = .ok (.string (strOf B len)) w9 := conv_bin (V1.out.below L9a.out)
          have L9 := hid (show Below w.heap.size w w9 from L1.out.trans (L9a.out.mono hwc))
          have T9 := hid (HT.out.below L9.out h0)
          go_upto_region 8 with fail
          have hrefl := HRF.out
          refine region_rel (n := 72) (B := fun w' => Below w9.heap.size w9 w') (E := fun w w' => Below w.heap.size w w') (φ := (fun (k : Nat) (v : Value) (w : World) => v = ([.bool true, .bool true, .int .i64 3, .bool true, .bool true, undef, undef, undef, undef, undef, undef, undef, undef, undef, undef, undef, undef, undef, undef, undef, undef, undef, undef, undef, .bool true, .bool true, .bool true] : List Value).getD k undef)) (by kernel_rfl) (by kernel_rfl) (by kernel_rfl) (by kernel_rfl) ?mono hrefl ((Below.refl _ _).drew) ?hop ?hend
          case mono =>
            intro j v w w' h hE
            exact h
          case hop =>
            refine And.intro ?_ ?_
            · intro V ρ w hB hc hf hd hs
              clear hd hs
              refine outcome_enter (w := w) (f := 9) (args := #[]) (by simp [go_sem, hc, hf]) ?_
              refine (alive_c (T9.out.below hB T9.out.lt)).mono ?_
              rintro e w' ⟨rfl, Lx⟩
              exact ⟨_, rfl, rfl, hB.trans (Lx.mono hB.size), Lx⟩
            refine And.intro ?_ ?_
            · intro V ρ w hB hc hf hd hs
              have s46 : ρ (.tmp 46) = .bool true := (hd 0 (by kernel_rfl) 46 (by kernel_rfl)).2.trans (hd 0 (by kernel_rfl) 46 (by kernel_rfl)).1
              clear hd hs
              rw [BigFrame.run_move (.tmp 46) rfl]
              exact ⟨s46, hB, hrefl w⟩
            refine And.intro ?_ ?_
            · intro V ρ w hB hc hf hd hs
              have s7 : ρ (.tmp 7) = .int .i64 3 := hs 7 (by kernel_rfl)
              refine Or.inl ⟨(hd 1 (by kernel_rfl) 47 (by kernel_rfl)).1, ?_⟩
              clear hd hs
              rw [BigFrame.run_move (.tmp 7) rfl]
              exact ⟨s7, hB, hrefl w⟩
            refine And.intro ?_ ?_
            · intro V ρ w hB hc hf hd hs
              have s48 : ρ (.tmp 48) = .int .i64 3 := (hd 2 (by kernel_rfl) 48 (by kernel_rfl)).2.trans (hd 2 (by kernel_rfl) 48 (by kernel_rfl)).1
              refine Or.inl ⟨(hd 1 (by kernel_rfl) 47 (by kernel_rfl)).1, ?_⟩
              clear hd hs
              refine outcome_value (v := .bool true) ?_ ⟨rfl, hB, hrefl w⟩
              simp [go_sem, hc, hf, s48]
            refine And.intro ?_ ?_
            · intro V ρ w hB hc hf hd hs
              have s49 : ρ (.tmp 49) = .bool true := (hd 3 (by kernel_rfl) 49 (by kernel_rfl)).2.trans (hd 3 (by kernel_rfl) 49 (by kernel_rfl)).1
              refine Or.inl ⟨(hd 1 (by kernel_rfl) 47 (by kernel_rfl)).1, ?_⟩
              clear hd hs
              rw [BigFrame.run_move (.tmp 49) rfl]
              exact ⟨s49, hB, hrefl w⟩
            refine And.intro ?_ ?_
            · intro V ρ w hB hc hf hd hs
              have hgv : V 4 = .bool true := (hd 4 (by kernel_rfl) 50 (by kernel_rfl)).1
              exact Or.inr ⟨(by rw [hgv]; intro h; cases h), rfl⟩
            refine And.intro ?_ ?_
            · intro V ρ w hB hc hf hd hs
              have hgv : V 4 = .bool true := (hd 4 (by kernel_rfl) 50 (by kernel_rfl)).1
              exact Or.inr ⟨(by rw [hgv]; intro h; cases h), rfl⟩
            refine And.intro ?_ ?_
            · intro V ρ w hB hc hf hd hs
              have hgv : V 4 = .bool true := (hd 4 (by kernel_rfl) 50 (by kernel_rfl)).1
              exact Or.inr ⟨(by rw [hgv]; intro h; cases h), rfl⟩
            refine And.intro ?_ ?_
            · intro V ρ w hB hc hf hd hs
              have hgv : V 4 = .bool true := (hd 4 (by kernel_rfl) 50 (by kernel_rfl)).1
              exact Or.inr ⟨(by rw [hgv]; intro h; cases h), rfl⟩
            refine And.intro ?_ ?_
            · intro V ρ w hB hc hf hd hs
              have hgv : V 4 = .bool true := (hd 4 (by kernel_rfl) 50 (by kernel_rfl)).1
              exact Or.inr ⟨(by rw [hgv]; intro h; cases h), rfl⟩
            refine And.intro ?_ ?_
            · intro V ρ w hB hc hf hd hs
              have hgv : V 4 = .bool true := (hd 4 (by kernel_rfl) 50 (by kernel_rfl)).1
              exact Or.inr ⟨(by rw [hgv]; intro h; cases h), rfl⟩
            refine And.intro ?_ ?_
            · intro V ρ w hB hc hf hd hs
              have hgv : V 4 = .bool true := (hd 4 (by kernel_rfl) 50 (by kernel_rfl)).1
              exact Or.inr ⟨(by rw [hgv]; intro h; cases h), rfl⟩
            refine And.intro ?_ ?_
            · intro V ρ w hB hc hf hd hs
              have hgv : V 11 = undef := (hd 11 (by kernel_rfl) 57 (by kernel_rfl)).1
              exact Or.inr ⟨(by rw [hgv]; intro h; cases h), rfl⟩
            refine And.intro ?_ ?_
            · intro V ρ w hB hc hf hd hs
              have hgv : V 11 = undef := (hd 11 (by kernel_rfl) 57 (by kernel_rfl)).1
              exact Or.inr ⟨(by rw [hgv]; intro h; cases h), rfl⟩
            refine And.intro ?_ ?_
            · intro V ρ w hB hc hf hd hs
              have hgv : V 11 = undef := (hd 11 (by kernel_rfl) 57 (by kernel_rfl)).1
              exact Or.inr ⟨(by rw [hgv]; intro h; cases h), rfl⟩
            refine And.intro ?_ ?_
            · intro V ρ w hB hc hf hd hs
              have hgv : V 11 = undef := (hd 11 (by kernel_rfl) 57 (by kernel_rfl)).1
              exact Or.inr ⟨(by rw [hgv]; intro h; cases h), rfl⟩
            refine And.intro ?_ ?_
            · intro V ρ w hB hc hf hd hs
              have hgv : V 4 = .bool true := (hd 4 (by kernel_rfl) 50 (by kernel_rfl)).1
              exact Or.inr ⟨(by rw [hgv]; intro h; cases h), rfl⟩
            refine And.intro ?_ ?_
            · intro V ρ w hB hc hf hd hs
              have hgv : V 4 = .bool true := (hd 4 (by kernel_rfl) 50 (by kernel_rfl)).1
              exact Or.inr ⟨(by rw [hgv]; intro h; cases h), rfl⟩
            refine And.intro ?_ ?_
            · intro V ρ w hB hc hf hd hs
              have hgv : V 17 = undef := (hd 17 (by kernel_rfl) 63 (by kernel_rfl)).1
              exact Or.inr ⟨(by rw [hgv]; intro h; cases h), rfl⟩
            refine And.intro ?_ ?_
            · intro V ρ w hB hc hf hd hs
              have hgv : V 17 = undef := (hd 17 (by kernel_rfl) 63 (by kernel_rfl)).1
              exact Or.inr ⟨(by rw [hgv]; intro h; cases h), rfl⟩
            refine And.intro ?_ ?_
            · intro V ρ w hB hc hf hd hs
              have hgv : V 17 = undef := (hd 17 (by kernel_rfl) 63 (by kernel_rfl)).1
              exact Or.inr ⟨(by rw [hgv]; intro h; cases h), rfl⟩
            refine And.intro ?_ ?_
            · intro V ρ w hB hc hf hd hs
              have hgv : V 17 = undef := (hd 17 (by kernel_rfl) 63 (by kernel_rfl)).1
              exact Or.inr ⟨(by rw [hgv]; intro h; cases h), rfl⟩
            refine And.intro ?_ ?_
            · intro V ρ w hB hc hf hd hs
              have hgv : V 17 = undef := (hd 17 (by kernel_rfl) 63 (by kernel_rfl)).1
              exact Or.inr ⟨(by rw [hgv]; intro h; cases h), rfl⟩
            refine And.intro ?_ ?_
            · intro V ρ w hB hc hf hd hs
              have hgv : V 4 = .bool true := (hd 4 (by kernel_rfl) 50 (by kernel_rfl)).1
              exact Or.inr ⟨(by rw [hgv]; intro h; cases h), rfl⟩
            refine And.intro ?_ ?_
            · intro V ρ w hB hc hf hd hs
              have s50 : ρ (.tmp 50) = .bool true := (hd 4 (by kernel_rfl) 50 (by kernel_rfl)).2.trans (hd 4 (by kernel_rfl) 50 (by kernel_rfl)).1
              have s69 : ρ (.tmp 69) = undef := (hd 23 (by kernel_rfl) 69 (by kernel_rfl)).2.trans (hd 23 (by kernel_rfl) 69 (by kernel_rfl)).1
              refine Or.inl ⟨(hd 1 (by kernel_rfl) 47 (by kernel_rfl)).1, ?_⟩
              clear hd hs
              refine outcome_value (v := .bool true) ?_ ⟨rfl, hB, hrefl w⟩
              simp [go_sem, hc, hf, s50, s69]
            refine And.intro ?_ ?_
            · intro V ρ w hB hc hf hd hs
              have s47 : ρ (.tmp 47) = .bool true := (hd 1 (by kernel_rfl) 47 (by kernel_rfl)).2.trans (hd 1 (by kernel_rfl) 47 (by kernel_rfl)).1
              have s70 : ρ (.tmp 70) = .bool true := (hd 24 (by kernel_rfl) 70 (by kernel_rfl)).2.trans (hd 24 (by kernel_rfl) 70 (by kernel_rfl)).1
              clear hd hs
              refine outcome_value (v := .bool true) ?_ ⟨rfl, hB, hrefl w⟩
              simp [go_sem, hc, hf, s47, s70]
            refine And.intro ?_ ?_
            · intro V ρ w hB hc hf hd hs
              have s71 : ρ (.tmp 71) = .bool true := (hd 25 (by kernel_rfl) 71 (by kernel_rfl)).2.trans (hd 25 (by kernel_rfl) 71 (by kernel_rfl)).1
              clear hd hs
              rw [BigFrame.run_assign (.tmp 71) rfl]
              exact ⟨s71, hB, hrefl w⟩
            exact trivial
          case hend =>
            intro V w10 hB10 hV
            have vl : V 26 = .bool true := hV 26 (by decide)
            simp only [lexF, Act.put, List.setIfInBounds_toArray, List.set_cons_zero, List.set_cons_succ, vl]
            clear hV
            go_wp2
            go_ret
            exact ⟨rfl, L9.out.trans (hB10.mono L9.out.size)⟩
        · obtain rfl : len = 64 := by omega
          clear h64 h80 hl'
          obtain ⟨g5, o5, rfl, hp5, _, _, hB5⟩ := B1.out (by omega)
          obtain ⟨ab, ao, rfl, hpb, _, _, hV5⟩ := V1.out (by omega)
          have B1x := hid hB5
          have V1x := hid hV5
          clear hB5 hV5
          by_cases hok : ∀ i, i < 512 → OkAt m (wordsOf B) i
          · have OKK := hid hok
            clear hok
            go_upto_region 6 with first
              | (go_at_call 26; refine (load_walk B1x.out hp5 hm1 hm2).mono ?_; rintro e w7 ⟨Lx, hy, -⟩; obtain ⟨c, hcc, rfl, hMc⟩ := hy OKK.out; have L7 := hid Lx; have M7 := hid hMc; have V7 := hid ((V1x.out).below hpb Lx); have hpb7 := Nat.lt_of_lt_of_le hpb Lx.size; clear Lx hy hMc)
              | (go_at_call 27; refine (rload_c V7.out hpb7 hm1 hm2).mono ?_; rintro e w8 ⟨Lx, hy, -⟩; obtain ⟨rm, rfl, hRM⟩ := hy ((rd_ok hm1 hm2 B).2 OKK.out); have R8 := hid hRM; have L8 := hid (L7.out.trans (Lx.mono L7.out.size)); have M8 := hid (M7.out.below Lx M7.out.lt); obtain ⟨rb, rc, hrm0, -⟩ := hRM; have hrm := hid hrm0; rw [hrm0]; clear Lx hy hrm0)
            have L9a := hid (L8.out.alloc (by have := L8.out.size; omega) (.cells #[.slice (some ⟨rb, 0, none⟩) m rc] 41))
            have HM9 := hid (Blk.new w8 #[.slice (some ⟨rb, 0, none⟩) m rc] 41)
            have R9 := hid (R8.out.below ((Below.refl w8.heap.size w8).alloc (Nat.le_refl _) (.cells #[.slice (some ⟨rb, 0, none⟩) m rc] 41)))
            have HMc := hid (Fn.alloc M8.out (.cells #[.slice (some ⟨rb, 0, none⟩) m rc] 41))
            obtain ⟨w9, hw9⟩ : ∃ w9, w9 = w8.alloc (.cells #[.slice (some ⟨rb, 0, none⟩) m rc] 41) := ⟨_, rfl⟩
            rw [← hw9]
            rw [← hw9] at L9a HM9 R9 HMc
            clear hw9
            have h89 := HM9.out.lt
            have cv1 : (convert 44 9 (.slice (some ⟨g5, o5, none⟩) 64 c5)).run Tryd.prog w9 = .ok (.string (strOf B 64)) w9 := conv_bin (B1.out.below L9a.out)
            have cv2 : (convert 44 9 (.slice (some ⟨ab, ao, none⟩) 64 cap)).run Tryd.prog w9 = .ok (.string (strOf B 64)) w9 := conv_bin (V1.out.below L9a.out)
            have L9 := hid (show Below w.heap.size w w9 from L1.out.trans (L9a.out.mono hwc))
            have T9 := hid (HT.out.below L9.out h0)
            have V9 := hid (V1x.out.below hpb L9a.out)
            have hab9 := Nat.lt_of_lt_of_le hpb L9a.out.size
            go_upto_region 8 with fail
            have hrefl := HRF.out
            refine region_rel (n := 72) (B := fun w' => Below w9.heap.size w9 w') (E := fun w w' => Below w.heap.size w w') (φ := (fun (k : Nat) (v : Value) (w : World) => if k = 6 then ∃ g : Nat, v = .slice (some ⟨g, 0, none⟩) 64 64 ∧ g < w.heap.size ∧ Bts w g 0 64 (bt (wordsOf B)) else v = ([.bool true, .bool true, .int .i64 0, .bool false, .bool false, .pointer (some ⟨c, 0, none⟩), undef, .string (strOf B 64), .slice (some ⟨ab, ao, none⟩) 64 cap, .string (strOf B 64), .bool true, .bool true, .pointer (some ⟨c, 0, none⟩), .int .i64 (m : Int), .int .i64 (m : Int), .bool true, .bool true, .bool true, .pointer (some ⟨c, 0, none⟩), .int .i64 ((m : Int) - (cnt (used (wordsOf B)) m : Nat)), rm, .int .i64 ((m : Int) - (cnt (used (wordsOf B)) m : Nat)), .bool true, .bool true, .bool true, .bool true, .bool true] : List Value).getD k undef)) (by kernel_rfl) (by kernel_rfl) (by kernel_rfl) (by kernel_rfl) ?mono hrefl ((Below.refl _ _).drew) ?hop ?hend
            case mono =>
              intro j v w w' h hE
              split at h
              · rename_i hj
                subst hj
                obtain ⟨g, h1, h2, h3⟩ := h
                exact ⟨g, h1, Nat.lt_of_lt_of_le h2 hE.size, h3.below h2 hE⟩
              · rename_i hj
                rw [if_neg hj]
                exact h
            case hop =>
              refine And.intro ?_ ?_
              · intro V ρ w hB hc hf hd hs
                clear hd hs
                refine outcome_enter (w := w) (f := 9) (args := #[]) (by simp [go_sem, hc, hf]) ?_
                refine (alive_c (T9.out.below hB T9.out.lt)).mono ?_
                rintro e w' ⟨rfl, Lx⟩
                exact ⟨_, rfl, rfl, hB.trans (Lx.mono hB.size), Lx⟩
              refine And.intro ?_ ?_
              · intro V ρ w hB hc hf hd hs
                have s46 : ρ (.tmp 46) = .bool true := (hd 0 (by kernel_rfl) 46 (by kernel_rfl)).2.trans (hd 0 (by kernel_rfl) 46 (by kernel_rfl)).1
                clear hd hs
                rw [BigFrame.run_move (.tmp 46) rfl]
                exact ⟨s46, hB, hrefl w⟩
              refine And.intro ?_ ?_
              · intro V ρ w hB hc hf hd hs
                have s7 : ρ (.tmp 7) = .int .i64 0 := hs 7 (by kernel_rfl)
                refine Or.inl ⟨(hd 1 (by kernel_rfl) 47 (by kernel_rfl)).1, ?_⟩
                clear hd hs
                rw [BigFrame.run_move (.tmp 7) rfl]
                exact ⟨s7, hB, hrefl w⟩
              refine And.intro ?_ ?_
              · intro V ρ w hB hc hf hd hs
                have s48 : ρ (.tmp 48) = .int .i64 0 := (hd 2 (by kernel_rfl) 48 (by kernel_rfl)).2.trans (hd 2 (by kernel_rfl) 48 (by kernel_rfl)).1
                refine Or.inl ⟨(hd 1 (by kernel_rfl) 47 (by kernel_rfl)).1, ?_⟩
                clear hd hs
                refine outcome_value (v := .bool false) ?_ ⟨rfl, hB, hrefl w⟩
                simp [go_sem, hc, hf, s48]
              refine And.intro ?_ ?_
              · intro V ρ w hB hc hf hd hs
                have s49 : ρ (.tmp 49) = .bool false := (hd 3 (by kernel_rfl) 49 (by kernel_rfl)).2.trans (hd 3 (by kernel_rfl) 49 (by kernel_rfl)).1
                refine Or.inl ⟨(hd 1 (by kernel_rfl) 47 (by kernel_rfl)).1, ?_⟩
                clear hd hs
                rw [BigFrame.run_move (.tmp 49) rfl]
                exact ⟨s49, hB, hrefl w⟩
              refine And.intro ?_ ?_
              · intro V ρ w hB hc hf hd hs
                have s6 : ρ (.tmp 6) = .pointer (some ⟨c, 0, none⟩) := hs 6 (by kernel_rfl)
                refine Or.inl ⟨(hd 4 (by kernel_rfl) 50 (by kernel_rfl)).1, ?_⟩
                clear hd hs
                rw [BigFrame.run_move (.tmp 6) rfl]
                exact ⟨s6, hB, hrefl w⟩
              refine And.intro ?_ ?_
              · intro V ρ w hB hc hf hd hs
                have s51 : ρ (.tmp 51) = .pointer (some ⟨c, 0, none⟩) := (hd 5 (by kernel_rfl) 51 (by kernel_rfl)).2.trans (hd 5 (by kernel_rfl) 51 (by kernel_rfl)).1
                refine Or.inl ⟨(hd 4 (by kernel_rfl) 50 (by kernel_rfl)).1, ?_⟩
                clear hd hs
                refine outcome_enter (w := w) (f := 16) (args := #[.pointer (some ⟨c, 0, none⟩)]) (by simp [go_sem, hc, hf, s51]) ?_
                refine (bytes_c (HMc.out.below hB HMc.out.lt)).mono ?_
                rintro e w' ⟨rfl, F, Lx⟩
                exact ⟨_, rfl, Eq.mpr (if_pos rfl) ⟨_, rfl, F.lt, bts_of_fn F⟩, hB.trans (Lx.mono hB.size), Lx⟩
              refine And.intro ?_ ?_
              · intro V ρ w hB hc hf hd hs
                obtain ⟨f52, s52⟩ := hd 6 (by kernel_rfl) 52 (by kernel_rfl)
                refine Or.inl ⟨(hd 4 (by kernel_rfl) 50 (by kernel_rfl)).1, ?_⟩
                clear hd hs
                obtain ⟨g, hv, hg, hbt⟩ := Eq.mp (if_pos rfl) f52
                rw [hv] at s52
                exact outcome_value (v := .string (strOf B 64)) (run_conv rfl s52 ((conv_bts hbt).trans (by rw [strOf_congr (n := 64) (fun j hj => bt_words B j hj)]))) ⟨rfl, hB, hrefl w⟩
              refine And.intro ?_ ?_
              · intro V ρ w hB hc hf hd hs
                have s0 : ρ (.tmp 0) = .slice (some ⟨ab, ao, none⟩) 64 cap := hs 0 (by kernel_rfl)
                refine Or.inl ⟨(hd 4 (by kernel_rfl) 50 (by kernel_rfl)).1, ?_⟩
                clear hd hs
                rw [BigFrame.run_move (.tmp 0) rfl]
                exact ⟨s0, hB, hrefl w⟩
              refine And.intro ?_ ?_
              · intro V ρ w hB hc hf hd hs
                have s54 : ρ (.tmp 54) = .slice (some ⟨ab, ao, none⟩) 64 cap := (hd 8 (by kernel_rfl) 54 (by kernel_rfl)).2.trans (hd 8 (by kernel_rfl) 54 (by kernel_rfl)).1
                refine Or.inl ⟨(hd 4 (by kernel_rfl) 50 (by kernel_rfl)).1, ?_⟩
                clear hd hs
                exact outcome_value (v := .string (strOf B 64)) (run_conv rfl s54 (conv_bts (V9.out.below hab9 hB))) ⟨rfl, hB, hrefl w⟩
              refine And.intro ?_ ?_
              · intro V ρ w hB hc hf hd hs
                have s53 : ρ (.tmp 53) = .string (strOf B 64) := (hd 7 (by kernel_rfl) 53 (by kernel_rfl)).2.trans (hd 7 (by kernel_rfl) 53 (by kernel_rfl)).1
                have s55 : ρ (.tmp 55) = .string (strOf B 64) := (hd 9 (by kernel_rfl) 55 (by kernel_rfl)).2.trans (hd 9 (by kernel_rfl) 55 (by kernel_rfl)).1
                refine Or.inl ⟨(hd 4 (by kernel_rfl) 50 (by kernel_rfl)).1, ?_⟩
                clear hd hs
                refine outcome_value (v := .bool true) ?_ ⟨rfl, hB, hrefl w⟩
                simp [go_sem, hc, hf, s53, s55]
              refine And.intro ?_ ?_
              · intro V ρ w hB hc hf hd hs
                have s56 : ρ (.tmp 56) = .bool true := (hd 10 (by kernel_rfl) 56 (by kernel_rfl)).2.trans (hd 10 (by kernel_rfl) 56 (by kernel_rfl)).1
                refine Or.inl ⟨(hd 4 (by kernel_rfl) 50 (by kernel_rfl)).1, ?_⟩
                clear hd hs
                rw [BigFrame.run_move (.tmp 56) rfl]
                exact ⟨s56, hB, hrefl w⟩
              refine And.intro ?_ ?_
              · intro V ρ w hB hc hf hd hs
                have s6 : ρ (.tmp 6) = .pointer (some ⟨c, 0, none⟩) := hs 6 (by kernel_rfl)
                refine Or.inl ⟨(hd 11 (by kernel_rfl) 57 (by kernel_rfl)).1, ?_⟩
                clear hd hs
                rw [BigFrame.run_move (.tmp 6) rfl]
                exact ⟨s6, hB, hrefl w⟩
              refine And.intro ?_ ?_
              · intro V ρ w hB hc hf hd hs
                have s58 : ρ (.tmp 58) = .pointer (some ⟨c, 0, none⟩) := (hd 12 (by kernel_rfl) 58 (by kernel_rfl)).2.trans (hd 12 (by kernel_rfl) 58 (by kernel_rfl)).1
                refine Or.inl ⟨(hd 11 (by kernel_rfl) 57 (by kernel_rfl)).1, ?_⟩
                clear hd hs
                refine outcome_enter (w := w) (f := 25) (args := #[.pointer (some ⟨c, 0, none⟩)]) (by simp [go_sem, hc, hf, s58]) ?_
                refine (len_c (HMc.out.below hB HMc.out.lt)).mono ?_
                rintro e w' ⟨rfl, rfl⟩
                exact ⟨_, rfl, rfl, hB, hrefl _⟩
              refine And.intro ?_ ?_
              · intro V ρ w hB hc hf hd hs
                have s1 : ρ (.tmp 1) = .int .i64 (m : Int) := hs 1 (by kernel_rfl)
                refine Or.inl ⟨(hd 11 (by kernel_rfl) 57 (by kernel_rfl)).1, ?_⟩
                clear hd hs
                rw [BigFrame.run_move (.tmp 1) rfl]
                exact ⟨s1, hB, hrefl w⟩
              refine And.intro ?_ ?_
              · intro V ρ w hB hc hf hd hs
                have s59 : ρ (.tmp 59) = .int .i64 (m : Int) := (hd 13 (by kernel_rfl) 59 (by kernel_rfl)).2.trans (hd 13 (by kernel_rfl) 59 (by kernel_rfl)).1
                have s60 : ρ (.tmp 60) = .int .i64 (m : Int) := (hd 14 (by kernel_rfl) 60 (by kernel_rfl)).2.trans (hd 14 (by kernel_rfl) 60 (by kernel_rfl)).1
                refine Or.inl ⟨(hd 11 (by kernel_rfl) 57 (by kernel_rfl)).1, ?_⟩
                clear hd hs
                refine outcome_value (v := .bool true) ?_ ⟨rfl, hB, hrefl w⟩
                simp [go_sem, hc, hf, s59, s60]
              refine And.intro ?_ ?_
              · intro V ρ w hB hc hf hd hs
                have s57 : ρ (.tmp 57) = .bool true := (hd 11 (by kernel_rfl) 57 (by kernel_rfl)).2.trans (hd 11 (by kernel_rfl) 57 (by kernel_rfl)).1
                have s61 : ρ (.tmp 61) = .bool true := (hd 15 (by kernel_rfl) 61 (by kernel_rfl)).2.trans (hd 15 (by kernel_rfl) 61 (by kernel_rfl)).1
                refine Or.inl ⟨(hd 4 (by kernel_rfl) 50 (by kernel_rfl)).1, ?_⟩
                clear hd hs
                refine outcome_value (v := .bool true) ?_ ⟨rfl, hB, hrefl w⟩
                simp [go_sem, hc, hf, s57, s61]
              refine And.intro ?_ ?_
              · intro V ρ w hB hc hf hd hs
                have s62 : ρ (.tmp 62) = .bool true := (hd 16 (by kernel_rfl) 62 (by kernel_rfl)).2.trans (hd 16 (by kernel_rfl) 62 (by kernel_rfl)).1
                refine Or.inl ⟨(hd 4 (by kernel_rfl) 50 (by kernel_rfl)).1, ?_⟩
                clear hd hs
                rw [BigFrame.run_move (.tmp 62) rfl]
                exact ⟨s62, hB, hrefl w⟩
              refine And.intro ?_ ?_
              · intro V ρ w hB hc hf hd hs
                have s6 : ρ (.tmp 6) = .pointer (some ⟨c, 0, none⟩) := hs 6 (by kernel_rfl)
                refine Or.inl ⟨(hd 17 (by kernel_rfl) 63 (by kernel_rfl)).1, ?_⟩
                clear hd hs
                rw [BigFrame.run_move (.tmp 6) rfl]
                exact ⟨s6, hB, hrefl w⟩
              refine And.intro ?_ ?_
              · intro V ρ w hB hc hf hd hs
                have s64 : ρ (.tmp 64) = .pointer (some ⟨c, 0, none⟩) := (hd 18 (by kernel_rfl) 64 (by kernel_rfl)).2.trans (hd 18 (by kernel_rfl) 64 (by kernel_rfl)).1
                refine Or.inl ⟨(hd 17 (by kernel_rfl) 63 (by kernel_rfl)).1, ?_⟩
                clear hd hs
                refine outcome_enter (w := w) (f := 11) (args := #[.pointer (some ⟨c, 0, none⟩)]) (by simp [go_sem, hc, hf, s64]) ?_
                refine (free_c (HMc.out.below hB HMc.out.lt) hm2 (words_tight OKK.out).1).mono ?_
                rintro e w' ⟨rfl, rfl⟩
                exact ⟨_, rfl, rfl, hB, hrefl _⟩
              refine And.intro ?_ ?_
              · intro V ρ w hB hc hf hd hs
                have s8 : ρ (.tmp 8) = .pointer (some ⟨w8.heap.size, 0, none⟩) := hs 8 (by kernel_rfl)
                refine Or.inl ⟨(hd 17 (by kernel_rfl) 63 (by kernel_rfl)).1, ?_⟩
                clear hd hs
                have cm : w.cell? ⟨w8.heap.size, 0, none⟩ = some (.slice (some ⟨rb, 0, none⟩) m rc) := (hB.cell h89).trans (HM9.out.cellv rfl)
                exact outcome_value (v := rm) (by rw [hrm.out]; simp [go_sem, hc, hf, s8, cm]) ⟨rfl, hB, hrefl w⟩
              refine And.intro ?_ ?_
              · intro V ρ w hB hc hf hd hs
                have s66 : ρ (.tmp 66) = rm := (hd 20 (by kernel_rfl) 66 (by kernel_rfl)).2.trans (hd 20 (by kernel_rfl) 66 (by kernel_rfl)).1
                refine Or.inl ⟨(hd 17 (by kernel_rfl) 63 (by kernel_rfl)).1, ?_⟩
                clear hd hs
                refine outcome_enter (w := w) (f := 23) (args := #[rm]) (by simp [go_sem, hc, hf, s66]) ?_
                refine (rfree_c (R9.out.below hB) hm2).mono ?_
                rintro e w' ⟨rfl, Lx⟩
                exact ⟨_, rfl, by rw [cnt_congr (rd_used hm2 OKK.out)]; rfl, hB.trans (Lx.mono hB.size), Lx⟩
              refine And.intro ?_ ?_
              · intro V ρ w hB hc hf hd hs
                have s65 : ρ (.tmp 65) = .int .i64 ((m : Int) - (cnt (used (wordsOf B)) m : Nat)) := (hd 19 (by kernel_rfl) 65 (by kernel_rfl)).2.trans (hd 19 (by kernel_rfl) 65 (by kernel_rfl)).1
                have s67 : ρ (.tmp 67) = .int .i64 ((m : Int) - (cnt (used (wordsOf B)) m : Nat)) := (hd 21 (by kernel_rfl) 67 (by kernel_rfl)).2.trans (hd 21 (by kernel_rfl) 67 (by kernel_rfl)).1
                refine Or.inl ⟨(hd 17 (by kernel_rfl) 63 (by kernel_rfl)).1, ?_⟩
                clear hd hs
                refine outcome_value (v := .bool true) ?_ ⟨rfl, hB, hrefl w⟩
                simp [go_sem, hc, hf, s65, s67]
              refine And.intro ?_ ?_
              · intro V ρ w hB hc hf hd hs
                have s63 : ρ (.tmp 63) = .bool true := (hd 17 (by kernel_rfl) 63 (by kernel_rfl)).2.trans (hd 17 (by kernel_rfl) 63 (by kernel_rfl)).1
                have s68 : ρ (.tmp 68) = .bool true := (hd 22 (by kernel_rfl) 68 (by kernel_rfl)).2.trans (hd 22 (by kernel_rfl) 68 (by kernel_rfl)).1
                refine Or.inl ⟨(hd 4 (by kernel_rfl) 50 (by kernel_rfl)).1, ?_⟩
                clear hd hs
                refine outcome_value (v := .bool true) ?_ ⟨rfl, hB, hrefl w⟩
                simp [go_sem, hc, hf, s63, s68]
              refine And.intro ?_ ?_
              · intro V ρ w hB hc hf hd hs
                have s50 : ρ (.tmp 50) = .bool false := (hd 4 (by kernel_rfl) 50 (by kernel_rfl)).2.trans (hd 4 (by kernel_rfl) 50 (by kernel_rfl)).1
                have s69 : ρ (.tmp 69) = .bool true := (hd 23 (by kernel_rfl) 69 (by kernel_rfl)).2.trans (hd 23 (by kernel_rfl) 69 (by kernel_rfl)).1
                refine Or.inl ⟨(hd 1 (by kernel_rfl) 47 (by kernel_rfl)).1, ?_⟩
                clear hd hs
                refine outcome_value (v := .bool true) ?_ ⟨rfl, hB, hrefl w⟩
                simp [go_sem, hc, hf, s50, s69]
              refine And.intro ?_ ?_
              · intro V ρ w hB hc hf hd hs
                have s47 : ρ (.tmp 47) = .bool true := (hd 1 (by kernel_rfl) 47 (by kernel_rfl)).2.trans (hd 1 (by kernel_rfl) 47 (by kernel_rfl)).1
                have s70 : ρ (.tmp 70) = .bool true := (hd 24 (by kernel_rfl) 70 (by kernel_rfl)).2.trans (hd 24 (by kernel_rfl) 70 (by kernel_rfl)).1
                clear hd hs
                refine outcome_value (v := .bool true) ?_ ⟨rfl, hB, hrefl w⟩
                simp [go_sem, hc, hf, s47, s70]
              refine And.intro ?_ ?_
              · intro V ρ w hB hc hf hd hs
                have s71 : ρ (.tmp 71) = .bool true := (hd 25 (by kernel_rfl) 71 (by kernel_rfl)).2.trans (hd 25 (by kernel_rfl) 71 (by kernel_rfl)).1
                clear hd hs
                rw [BigFrame.run_assign (.tmp 71) rfl]
                exact ⟨s71, hB, hrefl w⟩
              exact trivial
            case hend =>
              intro V w10 hB10 hV
              have vl : V 26 = .bool true := hV 26 (by decide)
              simp only [lexF, Act.put, List.setIfInBounds_toArray, List.set_cons_zero, List.set_cons_succ, vl]
              clear hV
              go_wp2
              go_ret
              exact ⟨rfl, L9.out.trans (hB10.mono L9.out.size)⟩
          · have NOK := hid hok
            clear hok
            go_upto_region 6 with first
              | (go_at_call 26; refine (load_walk B1x.out hp5 hm1 hm2).mono ?_; rintro e w7 ⟨Lx, -, hy⟩; obtain rfl := hy NOK.out; have L7 := hid Lx; have V7 := hid ((V1x.out).below hpb Lx); have hpb7 := Nat.lt_of_lt_of_le hpb Lx.size; clear Lx hy)
              | (go_at_call 27; refine (rload_c V7.out hpb7 hm1 hm2).mono ?_; rintro e w8 ⟨Lx, -, hy⟩; obtain rfl := hy (fun h => NOK.out ((rd_ok hm1 hm2 B).1 h)); have L8 := hid (L7.out.trans (Lx.mono L7.out.size)); clear Lx hy)
            have L9a := hid (L8.out.alloc (by have := L8.out.size; omega) (.cells #[.slice none 0 0] 41))
            obtain ⟨w9, hw9⟩ : ∃ w9, w9 = w8.alloc (.cells #[.slice none 0 0] 41) := ⟨_, rfl⟩
            rw [← hw9]
            rw [← hw9] at L9a
            clear hw9
            have cv1 : (convert 44 9 (.slice (some ⟨g5, o5, none⟩) 64 c5)).run Tryd.prog w9 = .ok (.string (strOf B 64)) w9 := conv_bin (B1.out.below L9a.out)
            have cv2 : (convert 44 9 (.slice (some ⟨ab, ao, none⟩) 64 cap)).run Tryd.prog w9 = .ok (.string (strOf B 64)) w9 := conv_bin (V1.out.below L9a.out)
            have L9 := hid (show Below w.heap.size w w9 from L1.out.trans (L9a.out.mono hwc))
            have T9 := hid (HT.out.below L9.out h0)
            go_upto_region 8 with fail
            have hrefl := HRF.out
            refine region_rel (n := 72) (B := fun w' => Below w9.heap.size w9 w') (E := fun w w' => Below w.heap.size w w') (φ := (fun (k : Nat) (v : Value) (w : World) => v = ([.bool true, .bool true, .int .i64 3, .bool true, .bool true, undef, undef, undef, undef, undef, undef, undef, undef, undef, undef, undef, undef, undef, undef, undef, undef, undef, undef, undef, .bool true, .bool true, .bool true] : List Value).getD k undef)) (by kernel_rfl) (by kernel_rfl) (by kernel_rfl) (by kernel_rfl) ?mono hrefl ((Below.refl _ _).drew) ?hop ?hend
            case mono =>
              intro j v w w' h hE
              exact h
            case hop =>
              refine And.intro ?_ ?_
              · intro V ρ w hB hc hf hd hs
                clear hd hs
                refine outcome_enter (w := w) (f := 9) (args := #[]) (by simp [go_sem, hc, hf]) ?_
                refine (alive_c (T9.out.below hB T9.out.lt)).mono ?_
                rintro e w' ⟨rfl, Lx⟩
                exact ⟨_, rfl, rfl, hB.trans (Lx.mono hB.size), Lx⟩
              refine And.intro ?_ ?_
              · intro V ρ w hB hc hf hd hs
                have s46 : ρ (.tmp 46) = .bool true := (hd 0 (by kernel_rfl) 46 (by kernel_rfl)).2.trans (hd 0 (by kernel_rfl) 46 (by kernel_rfl)).1
                clear hd hs
                rw [BigFrame.run_move (.tmp 46) rfl]
                exact ⟨s46, hB, hrefl w⟩
              refine And.intro ?_ ?_
              · intro V ρ w hB hc hf hd hs
                have s7 : ρ (.tmp 7) = .int .i64 3 := hs 7 (by kernel_rfl)
                refine Or.inl ⟨(hd 1 (by kernel_rfl) 47 (by kernel_rfl)).1, ?_⟩
                clear hd hs
                rw [BigFrame.run_move (.tmp 7) rfl]
                exact ⟨s7, hB, hrefl w⟩
              refine And.intro ?_ ?_
              · intro V ρ w hB hc hf hd hs
                have s48 : ρ (.tmp 48) = .int .i64 3 := (hd 2 (by kernel_rfl) 48 (by kernel_rfl)).2.trans (hd 2 (by kernel_rfl) 48 (by kernel_rfl)).1
                refine Or.inl ⟨(hd 1 (by kernel_rfl) 47 (by kernel_rfl)).1, ?_⟩
                clear hd hs
                refine outcome_value (v := .bool true) ?_ ⟨rfl, hB, hrefl w⟩
                simp [go_sem, hc, hf, s48]
              refine And.intro ?_ ?_
              · intro V ρ w hB hc hf hd hs
                have s49 : ρ (.tmp 49) = .bool true := (hd 3 (by kernel_rfl) 49 (by kernel_rfl)).2.trans (hd 3 (by kernel_rfl) 49 (by kernel_rfl)).1
                refine Or.inl ⟨(hd 1 (by kernel_rfl) 47 (by kernel_rfl)).1, ?_⟩
                clear hd hs
                rw [BigFrame.run_move (.tmp 49) rfl]
                exact ⟨s49, hB, hrefl w⟩
              refine And.intro ?_ ?_
              · intro V ρ w hB hc hf hd hs
                have hgv : V 4 = .bool true := (hd 4 (by kernel_rfl) 50 (by kernel_rfl)).1
                exact Or.inr ⟨(by rw [hgv]; intro h; cases h), rfl⟩
              refine And.intro ?_ ?_
              · intro V ρ w hB hc hf hd hs
                have hgv : V 4 = .bool true := (hd 4 (by kernel_rfl) 50 (by kernel_rfl)).1
                exact Or.inr ⟨(by rw [hgv]; intro h; cases h), rfl⟩
              refine And.intro ?_ ?_
              · intro V ρ w hB hc hf hd hs
                have hgv : V 4 = .bool true := (hd 4 (by kernel_rfl) 50 (by kernel_rfl)).1
                exact Or.inr ⟨(by rw [hgv]; intro h; cases h), rfl⟩
              refine And.intro ?_ ?_
              · intro V ρ w hB hc hf hd hs
                have hgv : V 4 = .bool true := (hd 4 (by kernel_rfl) 50 (by kernel_rfl)).1
                exact Or.inr ⟨(by rw [hgv]; intro h; cases h), rfl⟩
              refine And.intro ?_ ?_
              · intro V ρ w hB hc hf hd hs
                have hgv : V 4 = .bool true := (hd 4 (by kernel_rfl) 50 (by kernel_rfl)).1
                exact Or.inr ⟨(by rw [hgv]; intro h; cases h), rfl⟩
              refine And.intro ?_ ?_
              · intro V ρ w hB hc hf hd hs
                have hgv : V 4 = .bool true := (hd 4 (by kernel_rfl) 50 (by kernel_rfl)).1
                exact Or.inr ⟨(by rw [hgv]; intro h; cases h), rfl⟩
              refine And.intro ?_ ?_
              · intro V ρ w hB hc hf hd hs
                have hgv : V 4 = .bool true := (hd 4 (by kernel_rfl) 50 (by kernel_rfl)).1
                exact Or.inr ⟨(by rw [hgv]; intro h; cases h), rfl⟩
              refine And.intro ?_ ?_
              · intro V ρ w hB hc hf hd hs
                have hgv : V 11 = undef := (hd 11 (by kernel_rfl) 57 (by kernel_rfl)).1
                exact Or.inr ⟨(by rw [hgv]; intro h; cases h), rfl⟩
              refine And.intro ?_ ?_
              · intro V ρ w hB hc hf hd hs
                have hgv : V 11 = undef := (hd 11 (by kernel_rfl) 57 (by kernel_rfl)).1
                exact Or.inr ⟨(by rw [hgv]; intro h; cases h), rfl⟩
              refine And.intro ?_ ?_
              · intro V ρ w hB hc hf hd hs
                have hgv : V 11 = undef := (hd 11 (by kernel_rfl) 57 (by kernel_rfl)).1
                exact Or.inr ⟨(by rw [hgv]; intro h; cases h), rfl⟩
              refine And.intro ?_ ?_
              · intro V ρ w hB hc hf hd hs
                have hgv : V 11 = undef := (hd 11 (by kernel_rfl) 57 (by kernel_rfl)).1
                exact Or.inr ⟨(by rw [hgv]; intro h; cases h), rfl⟩
              refine And.intro ?_ ?_
              · intro V ρ w hB hc hf hd hs
                have hgv : V 4 = .bool true := (hd 4 (by kernel_rfl) 50 (by kernel_rfl)).1
                exact Or.inr ⟨(by rw [hgv]; intro h; cases h), rfl⟩
              refine And.intro ?_ ?_
              · intro V ρ w hB hc hf hd hs
                have hgv : V 4 = .bool true := (hd 4 (by kernel_rfl) 50 (by kernel_rfl)).1
                exact Or.inr ⟨(by rw [hgv]; intro h; cases h), rfl⟩
              refine And.intro ?_ ?_
              · intro V ρ w hB hc hf hd hs
                have hgv : V 17 = undef := (hd 17 (by kernel_rfl) 63 (by kernel_rfl)).1
                exact Or.inr ⟨(by rw [hgv]; intro h; cases h), rfl⟩
              refine And.intro ?_ ?_
              · intro V ρ w hB hc hf hd hs
                have hgv : V 17 = undef := (hd 17 (by kernel_rfl) 63 (by kernel_rfl)).1
                exact Or.inr ⟨(by rw [hgv]; intro h; cases h), rfl⟩
              refine And.intro ?_ ?_
              · intro V ρ w hB hc hf hd hs
                have hgv : V 17 = undef := (hd 17 (by kernel_rfl) 63 (by kernel_rfl)).1
                exact Or.inr ⟨(by rw [hgv]; intro h; cases h), rfl⟩
              refine And.intro ?_ ?_
              · intro V ρ w hB hc hf hd hs
                have hgv : V 17 = undef := (hd 17 (by kernel_rfl) 63 (by kernel_rfl)).1
                exact Or.inr ⟨(by rw [hgv]; intro h; cases h), rfl⟩
              refine And.intro ?_ ?_
              · intro V ρ w hB hc hf hd hs
                have hgv : V 17 = undef := (hd 17 (by kernel_rfl) 63 (by kernel_rfl)).1
                exact Or.inr ⟨(by rw [hgv]; intro h; cases h), rfl⟩
              refine And.intro ?_ ?_
              · intro V ρ w hB hc hf hd hs
                have hgv : V 4 = .bool true := (hd 4 (by kernel_rfl) 50 (by kernel_rfl)).1
                exact Or.inr ⟨(by rw [hgv]; intro h; cases h), rfl⟩
              refine And.intro ?_ ?_
              · intro V ρ w hB hc hf hd hs
                have s50 : ρ (.tmp 50) = .bool true := (hd 4 (by kernel_rfl) 50 (by kernel_rfl)).2.trans (hd 4 (by kernel_rfl) 50 (by kernel_rfl)).1
                have s69 : ρ (.tmp 69) = undef := (hd 23 (by kernel_rfl) 69 (by kernel_rfl)).2.trans (hd 23 (by kernel_rfl) 69 (by kernel_rfl)).1
                refine Or.inl ⟨(hd 1 (by kernel_rfl) 47 (by kernel_rfl)).1, ?_⟩
                clear hd hs
                refine outcome_value (v := .bool true) ?_ ⟨rfl, hB, hrefl w⟩
                simp [go_sem, hc, hf, s50, s69]
              refine And.intro ?_ ?_
              · intro V ρ w hB hc hf hd hs
                have s47 : ρ (.tmp 47) = .bool true := (hd 1 (by kernel_rfl) 47 (by kernel_rfl)).2.trans (hd 1 (by kernel_rfl) 47 (by kernel_rfl)).1
                have s70 : ρ (.tmp 70) = .bool true := (hd 24 (by kernel_rfl) 70 (by kernel_rfl)).2.trans (hd 24 (by kernel_rfl) 70 (by kernel_rfl)).1
                clear hd hs
                refine outcome_value (v := .bool true) ?_ ⟨rfl, hB, hrefl w⟩
                simp [go_sem, hc, hf, s47, s70]
              refine And.intro ?_ ?_
              · intro V ρ w hB hc hf hd hs
                have s71 : ρ (.tmp 71) = .bool true := (hd 25 (by kernel_rfl) 71 (by kernel_rfl)).2.trans (hd 25 (by kernel_rfl) 71 (by kernel_rfl)).1
                clear hd hs
                rw [BigFrame.run_assign (.tmp 71) rfl]
                exact ⟨s71, hB, hrefl w⟩
              exact trivial
            case hend =>
              intro V w10 hB10 hV
              have vl : V 26 = .bool true := hV 26 (by decide)
              simp only [lexF, Act.put, List.setIfInBounds_toArray, List.set_cons_zero, List.set_cons_succ, vl]
              clear hV
              go_wp2
              go_ret
              exact ⟨rfl, L9.out.trans (hB10.mono L9.out.size)⟩
end Go.Proofs.YtdmlldhlfofegaaDoor
