/- The document's Put32, Take32, TakeString; its frames: summed, Data, Ack. -/
import Derived.Test.YtkehejkjifgieaaOpn
import Derived.Test.YtkehejkjifgieaaRefSum
import Derived.Test.YtkehejkjifgieaaNum7
import Derived.Lib.SlBytesConst
import Derived.BigQuiet
import Derived.Deep.QuietTactic
import Derived.Test.YtkehejkjifgieaaOnceP
import Derived.Laws.ResultCell
namespace Go.Proofs.Ytkehejkjifgieaa
open Go.RowKit Go.ChangeMaps

theorem refSum_l {w : World} {v : Value} {xs : List W8} (hv : Bytes w v xs) (hbig : xs.length < 100000) :
    Calls Try.prog 62 #[v] w fun e w' => e = .returned (.agg (hl32 (shaL xs))) ∧ Below w.heap.size w w' := by
  have := refSum_c hv hbig
  rwa [shaL_hl] at this
set_option maxRecDepth 100000 in
set_option maxHeartbeats 1000000 in
theorem rput32_c {w : World} {v : Value} {xs : List W8} (hB : Bytes w v xs) (hl : xs.length ≤ 99000) (n : Nat) (hn : n < 4294967296) :
    Calls Try.prog 50 #[v, .int .u32 n] w fun e w' => ∃ v', e = .returned v' ∧ Ow w' w.heap.size v' (xs ++ le32 n) ∧ Below w.heap.size w w' := by
  have L0 := hid ((Below.refl w.heap.size w).alloc (Nat.le_refl _) (.cells #[] 5))
  have HB := hid (hB.below L0.out)
  have O0 := hid (Ow.empty w (Nat.le_refl _))
  obtain ⟨px, cx, rfl, _⟩ := hB
  have hle0 := hid (show ([] : List W8).length + xs.length ≤ 1000000 by simp; omega)
  go_enter Try.func50, Try.ntmps50
  go_upto_region 2 with (at_builtin; refine wpList_app rfl (.tmp 6) (.tmp 7) rfl rfl rfl O0.out HB.out hle0.out (by simp) ?_; intro v1 w1 O1 M1 _; have O1' := hid O1; have L1' := hid (M1.own_below O0.out (by simp) L0.out); clear O1 M1)
  have O1' : Hid (Ow w1 w.heap.size v1 xs) := O1'
  go_wp2_with (at_builtin; refine wpList_app rfl (.tmp 9) (.tmp 21) rfl rfl rfl (O1'.out.alloc _) (Bytes.lit w1 _ (le32 n) (by simp [byv, le32, ub_of]; omega) (by rw [le32_length]; decide)) (by rw [le32_length]; omega) (by have := L1'.out.size; simp; omega) ?_; intro v5 w5 O5 M5 _; have O5' := hid O5; have L5' := hid (M5.own_below (O1'.out.alloc _) (by have := L1'.out.size; simp; omega) (L1'.out.alloc L1'.out.size _)); clear O5 M5)
  go_ret
  exact ⟨_, rfl, O5'.out, L5'.out⟩
set_option maxRecDepth 100000 in
set_option maxHeartbeats 1000000 in
theorem rtake32_c {w : World} {v : Value} {xs : List W8} (hX : Bytes w v xs) (hl : xs.length ≤ 100000) :
    Calls Try.prog 59 #[v] w fun e w' => (if 4 ≤ xs.length then ∃ v2, e = .returned (.tuple #[.int .u32 (un32 xs : Int), v2, .int .i64 0]) ∧ Bytes w v2 (xs.drop 4) else e = .returned (.tuple #[.int .u32 0, .slice none 0 0, .int .i64 2])) ∧ Below w.heap.size w w' := by
  have CT := hid (rtakeBytes_c hX hl 4 (by decide))
  obtain ⟨px, cx, rfl, _⟩ := hX
  by_cases h4 : 4 ≤ xs.length
  · have HT := hid (show (xs.take 4).length = 4 by rw [List.length_take]; omega)
    have HG := hid (fun i (hi : i < 4) => show (xs.take 4).getD i 0 = xs.getD i 0 by rw [List.getD_eq_getElem?_getD, List.getD_eq_getElem?_getD, List.getElem?_take_of_lt hi])
    simp only [if_pos h4] at CT ⊢
    have HU := hid (show un32 xs = (xs.getD 0 0).toNat + (xs.getD 1 0).toNat * 256 + (xs.getD 2 0).toNat * 65536 + (xs.getD 3 0).toNat * 16777216 from rfl)
    go_enter Try.func59, Try.ntmps59
    go_upto_region 4 with (go_at_call 71; refine CT.out.mono ?_; rintro e w1 ⟨⟨v1, v2, rfl, O1, O2, _, _⟩, hb1⟩; have P1 := hid (O1.below hb1); have P2 := hid O2; have L1 := hid hb1; clear O1 O2 hb1)
    obtain ⟨p1, c1, e1, hq⟩ := P1.out
    obtain ⟨g, off, e2, hgl, hc, _, hS⟩ := hq (by rw [HT.out]; decide)
    rw [HT.out] at hc
    subst e1 e2
    obtain ⟨a, ha⟩ : ∃ a : Nat, a = (xs.getD 0 0).toNat := ⟨_, rfl⟩
    obtain ⟨b, hb⟩ : ∃ a : Nat, a = (xs.getD 1 0).toNat := ⟨_, rfl⟩
    obtain ⟨c, hc'⟩ : ∃ a : Nat, a = (xs.getD 2 0).toNat := ⟨_, rfl⟩
    obtain ⟨d, hd⟩ : ∃ a : Nat, a = (xs.getD 3 0).toNat := ⟨_, rfl⟩
    have c0 : w1.cell? ⟨g, off, none⟩ = some (.int .u8 (a : Int)) := by have := hS 0 (by rw [HT.out]; decide); rw [HG.out 0 (by decide)] at this; rw [ha]; exact this
    have c1 : w1.cell? ⟨g, off + 1, none⟩ = some (.int .u8 (b : Int)) := by have := hS 1 (by rw [HT.out]; decide); rw [HG.out 1 (by decide)] at this; rw [hb]; exact this
    have c2 : w1.cell? ⟨g, off + 2, none⟩ = some (.int .u8 (c : Int)) := by have := hS 2 (by rw [HT.out]; decide); rw [HG.out 2 (by decide)] at this; rw [hc']; exact this
    have c3 : w1.cell? ⟨g, off + 3, none⟩ = some (.int .u8 (d : Int)) := by have := hS 3 (by rw [HT.out]; decide); rw [HG.out 3 (by decide)] at this; rw [hd]; exact this
    have la : a < 256 := by rw [ha]; exact (xs.getD 0 0).isLt
    have lb : b < 256 := by rw [hb]; exact (xs.getD 1 0).isLt
    have lc : c < 256 := by rw [hc']; exact (xs.getD 2 0).isLt
    have ld : d < 256 := by rw [hd]; exact (xs.getD 3 0).isLt
    have HU' := hid (show (un32 xs : Int) = (a : Int) + (b : Int) * 256 + (c : Int) * 65536 + (d : Int) * 16777216 by rw [HU.out, ha, hb, hc', hd]; omega)
    rw [HT.out]
    clear hS hq ha hb hc' hd
    go_region
    go_wp2
    go_ret3
    rw [HU'.out]
    exact ⟨⟨_, rfl, P2.out⟩, L1.out.drew⟩
  · simp only [if_neg h4] at CT ⊢
    go_enter Try.func59, Try.ntmps59
    go_wp2_with (go_at_call 71; refine CT.out.mono ?_; rintro e w1 ⟨rfl, hb1⟩; have L1 := hid hb1; clear hb1)
    go_ret3
    exact ⟨rfl, L1.out⟩
set_option maxRecDepth 100000 in
set_option maxHeartbeats 1000000 in
theorem rsummed_c {w : World} {v : Value} {xs : List W8} (hB : Bytes w v xs) (hl : xs.length < 100000) :
    Calls Try.prog 48 #[v] w fun e w' => ∃ v', e = .returned v' ∧ Ow w' w.heap.size v' (sumB xs) ∧ Below w.heap.size w w' := by
  have CS := hid (refSum_l hB hl)
  have HO := hid hB
  have hz : ∀ W : World, (zeroValue 101).run Try.prog W = .ok (.agg (hl32 zero32)) W := zero_h32
  obtain ⟨p, c, rfl, _⟩ := hB
  go_enter Try.func48, Try.ntmps48
  go_upto_region 2 with (first
    | ((with_reducible refine at_op (.store 101 (.tmp 3) (.tmp 6)) rfl ?_); refine wpList_store_mid rfl 101 (.tmp 3) (.tmp 6) rfl w1.heap.size 0 (hl32 (shaL xs)) rfl rfl (hash_there _) (hl32_info _) (hl32_one _) ?_)
    | (go_at_call 62; refine CS.out.mono ?_; rintro e w1 ⟨rfl, hb1⟩; have B1 := hid hb1; clear hb1))
  obtain ⟨w2, hw2⟩ : ∃ w2, w2 = (w1.alloc (.cells (hl32 zero32) 101)).setCells w1.heap.size 0 (hl32 (shaL xs)).toList := ⟨_, rfl⟩
  obtain ⟨L, Y⟩ := hash_laid hw2 (shaL_length _)
  have L2 := hid (show Below w.heap.size w w2 from B1.out.trans (L.mono B1.out.size))
  have Y2 := hid (show Bytes w2 (.slice (some ⟨w1.heap.size, 0, none⟩) 4 32) ((shaL xs).take 4) from by
    have := Bytes.take' (xs := shaL xs) (p := some ⟨w1.heap.size, 0, none⟩) (cap := 32) (by rw [shaL_length]; exact Y) 4 (by rw [shaL_length]; decide)
    exact this)
  have H2 := hid (HO.out.below L2.out)
  rw [← hw2]
  clear hw2 L Y
  have L3 := hid ((Below.refl w2.heap.size w2).alloc (Nat.le_refl _) (.cells #[] 5))
  have H3 := hid (H2.out.below L3.out)
  have Y3 := hid (Y2.out.below L3.out)
  have O3 := hid (Ow.empty w2 (Nat.le_refl _))
  go_upto_region 3 with (at_builtin; refine wpList_app rfl (.tmp 7) (.tmp 8) rfl rfl rfl O3.out H3.out (by simp; omega) (by simp) ?_; intro v4 w4 O4 M4 _; have P4 := hid O4; have N4 := hid M4; clear O4 M4)
  have P4 : Hid (Ow w4 w2.heap.size v4 xs) := P4
  have L4 := hid (N4.out.own_below O3.out (by simp) L3.out)
  have Y4 := hid (Y2.out.below L4.out)
  go_wp2_with (at_builtin; refine wpList_app rfl (.tmp 10) (.tmp 11) rfl rfl rfl P4.out Y4.out (by rw [List.length_take, shaL_length]; omega) L4.out.size ?_; intro v6 w6 O6 M6 _; have P6 := hid O6; have L6 := hid (M6.own_below P4.out L4.out.size L4.out); clear O6 M6)
  go_ret
  exact ⟨_, rfl, P6.out.lower L2.out.size, L2.out.trans (L6.out.mono L2.out.size)⟩
end Go.Proofs.Ytkehejkjifgieaa

/- The document's frames: Data, Ack, open; TakeString. -/
namespace Go.Proofs.Ytkehejkjifgieaa
open Go.RowKit Go.ChangeMaps

theorem mark_bytes (w : World) (b : W8) {x : Int} (hx : x = ub b) : Bytes (w.alloc (.cells #[.int .u8 x] 5 (1, 2))) (.slice (some ⟨w.heap.size, 0, none⟩) 1 1) [b] :=
  ⟨_, 1, rfl, fun _ => ⟨w.heap.size, 0, rfl, by simp, Nat.le_refl _, by simp [maxLen], fun i hi => by
    have h : i = 0 := by have : i < 1 := hi; omega
    subst h
    subst hx
    exact cell_of_row _ _ _ _ _ (1, 2) (heap_alloc_new w _)⟩⟩
theorem conv_mark (W : World) (x : Int) : (convert 29 29 (.slice (some ⟨W.heap.size, 0, none⟩) 1 1)).run Try.prog (W.alloc (.cells #[.int .u8 x] 5)) = .ok (.slice (some ⟨W.heap.size, 0, none⟩) 1 1) (W.alloc (.cells #[.int .u8 x] 5 (1, 2))) :=
  Lib.run_convert_bytes_const W 29 5 #[.int .u8 x] 1 1 Try.underlying29 Try.underlying5
set_option maxRecDepth 100000 in
set_option maxHeartbeats 1000000 in
theorem rdata_c (w : World) (p : Int) (k : Nat) (hk : p % 4294967296 = (k : Int)) (m : List W8) (hl : m.length ≤ 50000) :
    Calls Try.prog 35 #[.int .i64 p, .string (str m)] w fun e w' => ∃ v', e = .returned v' ∧ Ow w' w.heap.size v' (dataB k m) ∧ Below w.heap.size w w' := by
  have L0 := hid ((Below.refl w.heap.size w).alloc (Nat.le_refl _) (.cells #[.int .u8 68] 5 (1, 2)))
  have B0 := hid (mark_bytes w 68 rfl)
  have ha := hid (show w.heap.size ≤ (w.alloc (.cells #[.int .u8 68] 5 (1, 2))).heap.size by simp)
  have hcm := conv_mark w 68
  have hkl : k < 4294967296 := by omega
  have hlen := hid (dataX_length k m)
  have BM := hid (fun W : World => show Bytes (Go.Lib.bytesWorld W 5 (str m)) (.slice (some ⟨W.heap.size, 0, none⟩) (str m).size (grownCap W (str m).size 0 5)) m from by
    have := bts_bytes W (str m) (by rw [str_size]; omega)
    rwa [unstr_str] at this)
  go_enter Try.func35, Try.ntmps35
  go_wp2_with (first
    | (go_at_call 50; refine (rput32_c B0.out (by decide) k hkl).mono ?_; rintro e w1 ⟨v1, rfl, O1, hb1⟩; have P1 := hid (O1.lower ha.out); have B1 := hid (L0.out.trans (hb1.mono ha.out)); have hcs := conv_bts w1 (str m); clear O1 hb1)
    | (go_at_call 49; refine (rputString_c (P1.out.below (bts_below w1 (str m))).bytes (BM.out w1) (by rw [List.length_append, le32_length]; decide) (by omega)).mono ?_; rintro e w2 ⟨v2, rfl, O2, hb2⟩; have P2 := hid O2; have B2 := hid ((B1.out.trans ((bts_below w1 (str m)).mono B1.out.size)).trans (hb2.mono (Nat.le_trans B1.out.size (bts_below w1 (str m)).size))); clear O2 hb2)
    | (go_at_call 48; refine (rsummed_c P2.out.bytes (by have := hlen.out; unfold dataX at this; omega)).mono ?_; rintro e w3 ⟨v3, rfl, O3, hb3⟩; have P3 := hid (O3.lower B2.out.size); have B3 := hid (B2.out.trans (hb3.mono B2.out.size)); clear O3 hb3))
  go_ret
  exact ⟨_, rfl, P3.out, B3.out⟩
set_option maxRecDepth 100000 in
set_option maxHeartbeats 1000000 in
theorem rack_c (w : World) (n : Nat) (hn : n < 4294967296) :
    Calls Try.prog 61 #[.int .i64 n] w fun e w' => ∃ v', e = .returned v' ∧ Ow w' w.heap.size v' (ackB n) ∧ Below w.heap.size w w' := by
  have L0 := hid ((Below.refl w.heap.size w).alloc (Nat.le_refl _) (.cells #[.int .u8 65] 5 (1, 2)))
  have B0 := hid (mark_bytes w 65 rfl)
  have ha := hid (show w.heap.size ≤ (w.alloc (.cells #[.int .u8 65] 5 (1, 2))).heap.size by simp)
  have hcm := conv_mark w 65
  go_enter Try.func61, Try.ntmps61
  go_wp2_with (first
    | (go_at_call 50; refine (rput32_c B0.out (by decide) n hn).mono ?_; rintro e w1 ⟨v1, rfl, O1, hb1⟩; have P1 := hid (O1.lower ha.out); have B1 := hid (L0.out.trans (hb1.mono ha.out)); clear O1 hb1)
    | (go_at_call 48; refine (rsummed_c P1.out.bytes (by rw [List.length_append, le32_length]; decide)).mono ?_; rintro e w3 ⟨v3, rfl, O3, hb3⟩; have P3 := hid (O3.lower B1.out.size); have B3 := hid (B1.out.trans (hb3.mono B1.out.size)); clear O3 hb3))
  go_ret
  exact ⟨_, rfl, P3.out, B3.out⟩
theorem opens_sumB (xs : List W8) : opens xs ↔ 5 ≤ xs.length ∧ sumB (xs.take (xs.length - 4)) = xs := by
  unfold opens sumB
  refine and_congr_right fun h => ?_
  constructor
  · intro e
    rw [e, List.take_append_drop]
  · intro e
    have := congrArg (List.drop (xs.length - 4)) e
    rwa [List.drop_left' (by rw [List.length_take]; omega)] at this
set_option maxRecDepth 100000 in
set_option maxHeartbeats 1000000 in
theorem ropen_c {w : World} {p : Option Addr} {cap : Nat} {xs : List W8} (hB : Bytes w (.slice p xs.length cap) xs) (hl : xs.length ≤ 90000) :
    Calls Try.prog 58 #[.slice p xs.length cap] w fun e w' => e = ansO p cap xs ∧ Below w.heap.size w w' := by
  obtain ⟨n, hn⟩ : ∃ n, n = xs.length := ⟨_, rfl⟩
  have HN := hid hn
  have HX := hid hB
  obtain ⟨A, hA⟩ : ∃ A, A = ansO p cap xs := ⟨_, rfl⟩
  have hrefl : ∀ w : World, Below w.heap.size w w := fun w => Below.refl _ w
  have hn1 : n ≤ 90000 := by omega
  by_cases h5 : 5 ≤ n
  · obtain ⟨q, hq⟩ : ∃ q, q = n - 4 := ⟨_, rfl⟩
    have hcap := (by
      rcases bytes_nil_or hB with ⟨c, e, e2⟩ | ⟨ad, c, e⟩
      · rw [e2] at hn; simp at hn; omega
      · cases e; exact (hB.len_le (by omega)).2 : xs.length ≤ cap)
    obtain ⟨ys, hys⟩ : ∃ ys, ys = xs.take q := ⟨_, rfl⟩
    have HY := hid (show Bytes w (.slice p q cap) ys by rw [hys]; exact hB.take' q (by omega))
    have hyl := hid (show ys.length < 100000 by rw [hys, List.length_take]; omega)
    obtain ⟨B, hBB⟩ : ∃ B, B = decide (sumB ys = xs) := ⟨_, rfl⟩
    have HBB := hid hBB
    have HA := hid (show A = if B = true then .returned (.tuple #[.slice p q cap, .int .i64 0]) else .returned (.tuple #[.slice none 0 0, .int .i64 14]) from by
      rw [hA]; unfold ansO
      rw [← hn, ← hq]
      by_cases h : opens xs
      · have h2 := ((opens_sumB xs).1 h).2
        rw [← hn, ← hq, ← hys] at h2
        rw [if_pos h, if_pos (by rw [hBB]; exact decide_eq_true h2)]
      · rw [if_neg h, if_neg (fun e => h ((opens_sumB xs).2 ⟨by omega, by rw [hBB] at e; have h2 := of_decide_eq_true e; rw [← hn, ← hq, ← hys]; exact h2⟩))])
    rw [← hA]
    have hsub : (n : Int) - 4 = (q : Int) := by omega
    have hqn : (q : Int) ≤ (n : Int) := by omega
    have hqc : (q : Int) ≤ (cap : Int) := by omega
    have hqc2 : q ≤ cap := by omega
    have hwq : IntKind.i64.wrap (q : Int) = (q : Int) := by simp [IntKind.wrap, IntKind.bits, IntKind.signed]; omega
    have h5i : ¬ (n : Int) < 5 := by omega
    rw [← hn] at HX ⊢
    clear hA hB hBB hq h5 hl hn hys hcap
    go_enter Try.func58, Try.ntmps58
    go_upto_region 1 with fail
    refine region_rel (n := 24) (B := fun w' => Below w.heap.size w w') (E := fun w w' => Below w.heap.size w w') (φ := (fun (kq : Nat) (v : Value) (w : World) => if kq = 9 then Bytes w v (sumB ys) else v = ([.slice p n cap, .int .i64 (n : Int), .bool false, .bool false, .slice p n cap, .slice p n cap, .int .i64 (n : Int), .int .i64 (q : Int), .slice p q cap, undef, .string (str (sumB ys)), .slice p n cap, .string (str xs), .bool (!B), .bool (!B)] : List Value).getD kq undef)) (by kernel_rfl) (by kernel_rfl) (by kernel_rfl) (by kernel_rfl) ?mono hrefl ((Below.refl _ _).drew) ?hop ?hend
    case mono =>
      intro j v w w' h hE
      split at h
      · rename_i hj
        rw [if_pos hj]
        exact h.below hE
      · rename_i hj
        rw [if_neg hj]
        exact h
    case hop =>
      refine And.intro ?_ ?_
      · intro V ρ w hB hc hf hd hs
        have s0 : ρ (.tmp 0) = .slice p n cap := hs 0 (by kernel_rfl)
        clear hd hs
        rw [BigFrame.run_move (.tmp 0) rfl]
        exact ⟨s0, hB, hrefl w⟩
      refine And.intro ?_ ?_
      · intro V ρ w hB hc hf hd hs
        have s4 : ρ (.tmp 4) = .slice p n cap := (hd 0 (by kernel_rfl) 4 (by kernel_rfl)).2.trans (hd 0 (by kernel_rfl) 4 (by kernel_rfl)).1
        clear hd hs
        refine outcome_value (v := .int .i64 (n : Int)) ?_ ⟨rfl, hB, hrefl w⟩
        simp [go_sem, s4]
      refine And.intro ?_ ?_
      · intro V ρ w hB hc hf hd hs
        have s5 : ρ (.tmp 5) = .int .i64 (n : Int) := (hd 1 (by kernel_rfl) 5 (by kernel_rfl)).2.trans (hd 1 (by kernel_rfl) 5 (by kernel_rfl)).1
        clear hd hs
        refine outcome_value (v := .bool false) ?_ ⟨rfl, hB, hrefl w⟩
        simp [go_sem, hc, s5, h5i]
      refine And.intro ?_ ?_
      · intro V ρ w hB hc hf hd hs
        have s6 : ρ (.tmp 6) = .bool false := (hd 2 (by kernel_rfl) 6 (by kernel_rfl)).2.trans (hd 2 (by kernel_rfl) 6 (by kernel_rfl)).1
        clear hd hs
        rw [BigFrame.run_move (.tmp 6) rfl]
        exact ⟨s6, hB, hrefl w⟩
      refine And.intro ?_ ?_
      · intro V ρ w hB hc hf hd hs
        have s0 : ρ (.tmp 0) = .slice p n cap := hs 0 (by kernel_rfl)
        refine Or.inl ⟨(hd 3 (by kernel_rfl) 7 (by kernel_rfl)).1, ?_⟩
        clear hd hs
        rw [BigFrame.run_move (.tmp 0) rfl]
        exact ⟨s0, hB, hrefl w⟩
      refine And.intro ?_ ?_
      · intro V ρ w hB hc hf hd hs
        have s0 : ρ (.tmp 0) = .slice p n cap := hs 0 (by kernel_rfl)
        refine Or.inl ⟨(hd 3 (by kernel_rfl) 7 (by kernel_rfl)).1, ?_⟩
        clear hd hs
        rw [BigFrame.run_move (.tmp 0) rfl]
        exact ⟨s0, hB, hrefl w⟩
      refine And.intro ?_ ?_
      · intro V ρ w hB hc hf hd hs
        have s9 : ρ (.tmp 9) = .slice p n cap := (hd 5 (by kernel_rfl) 9 (by kernel_rfl)).2.trans (hd 5 (by kernel_rfl) 9 (by kernel_rfl)).1
        refine Or.inl ⟨(hd 3 (by kernel_rfl) 7 (by kernel_rfl)).1, ?_⟩
        clear hd hs
        refine outcome_value (v := .int .i64 (n : Int)) ?_ ⟨rfl, hB, hrefl w⟩
        simp [go_sem, s9]
      refine And.intro ?_ ?_
      · intro V ρ w hB hc hf hd hs
        have s10 : ρ (.tmp 10) = .int .i64 (n : Int) := (hd 6 (by kernel_rfl) 10 (by kernel_rfl)).2.trans (hd 6 (by kernel_rfl) 10 (by kernel_rfl)).1
        refine Or.inl ⟨(hd 3 (by kernel_rfl) 7 (by kernel_rfl)).1, ?_⟩
        clear hd hs
        refine outcome_value (v := .int .i64 (q : Int)) ?_ ⟨rfl, hB, hrefl w⟩
        simp [go_sem, hc, s10, hsub, hwq]
      refine And.intro ?_ ?_
      · intro V ρ w hB hc hf hd hs
        have s8 : ρ (.tmp 8) = .slice p n cap := (hd 4 (by kernel_rfl) 8 (by kernel_rfl)).2.trans (hd 4 (by kernel_rfl) 8 (by kernel_rfl)).1
        have s11 : ρ (.tmp 11) = .int .i64 (q : Int) := (hd 7 (by kernel_rfl) 11 (by kernel_rfl)).2.trans (hd 7 (by kernel_rfl) 11 (by kernel_rfl)).1
        refine Or.inl ⟨(hd 3 (by kernel_rfl) 7 (by kernel_rfl)).1, ?_⟩
        clear hd hs
        exact outcome_value (v := .slice p q cap) (by simp [go_sem, sliced, s8, s11, hqc]) ⟨rfl, hB, hrefl w⟩
      refine And.intro ?_ ?_
      · intro V ρ w hB hc hf hd hs
        have s12 : ρ (.tmp 12) = .slice p q cap := (hd 8 (by kernel_rfl) 12 (by kernel_rfl)).2.trans (hd 8 (by kernel_rfl) 12 (by kernel_rfl)).1
        refine Or.inl ⟨(hd 3 (by kernel_rfl) 7 (by kernel_rfl)).1, ?_⟩
        clear hd hs
        refine outcome_enter (w := w) (f := 48) (args := #[.slice p q cap]) (by simp [go_sem, hf, s12]) ?_
        refine (rsummed_c (HY.out.below hB) hyl.out).mono ?_
        rintro e w' ⟨v2, rfl, hO, hL⟩
        exact ⟨v2, rfl, Eq.mpr (if_pos rfl) hO.bytes, hB.trans (hL.mono hB.size), hL⟩
      refine And.intro ?_ ?_
      · intro V ρ w hB hc hf hd hs
        obtain ⟨f13, s13⟩ := hd 9 (by kernel_rfl) 13 (by kernel_rfl)
        refine Or.inl ⟨(hd 3 (by kernel_rfl) 7 (by kernel_rfl)).1, ?_⟩
        clear hd hs
        exact outcome_value (run_conv rfl s13 (conv_str' (Eq.mp (if_pos rfl) f13))) ⟨rfl, hB, hrefl w⟩
      refine And.intro ?_ ?_
      · intro V ρ w hB hc hf hd hs
        have s0 : ρ (.tmp 0) = .slice p n cap := hs 0 (by kernel_rfl)
        refine Or.inl ⟨(hd 3 (by kernel_rfl) 7 (by kernel_rfl)).1, ?_⟩
        clear hd hs
        rw [BigFrame.run_move (.tmp 0) rfl]
        exact ⟨s0, hB, hrefl w⟩
      refine And.intro ?_ ?_
      · intro V ρ w hB hc hf hd hs
        have s15 : ρ (.tmp 15) = .slice p n cap := (hd 11 (by kernel_rfl) 15 (by kernel_rfl)).2.trans (hd 11 (by kernel_rfl) 15 (by kernel_rfl)).1
        refine Or.inl ⟨(hd 3 (by kernel_rfl) 7 (by kernel_rfl)).1, ?_⟩
        clear hd hs
        exact outcome_value (run_conv rfl s15 (conv_str' (HX.out.below hB))) ⟨rfl, hB, hrefl w⟩
      refine And.intro ?_ ?_
      · intro V ρ w hB hc hf hd hs
        have s14 : ρ (.tmp 14) = .string (str (sumB ys)) := (hd 10 (by kernel_rfl) 14 (by kernel_rfl)).2.trans (hd 10 (by kernel_rfl) 14 (by kernel_rfl)).1
        have s16 : ρ (.tmp 16) = .string (str xs) := (hd 12 (by kernel_rfl) 16 (by kernel_rfl)).2.trans (hd 12 (by kernel_rfl) 16 (by kernel_rfl)).1
        refine Or.inl ⟨(hd 3 (by kernel_rfl) 7 (by kernel_rfl)).1, ?_⟩
        clear hd hs
        refine outcome_value (v := .bool (!B)) ?_ ⟨rfl, hB, hrefl w⟩
        simp [go_sem, s14, s16, HBB.out, str_beq]
      refine And.intro ?_ ?_
      · intro V ρ w hB hc hf hd hs
        have s7 : ρ (.tmp 7) = .bool false := (hd 3 (by kernel_rfl) 7 (by kernel_rfl)).2.trans (hd 3 (by kernel_rfl) 7 (by kernel_rfl)).1
        have s17 : ρ (.tmp 17) = .bool (!B) := (hd 13 (by kernel_rfl) 17 (by kernel_rfl)).2.trans (hd 13 (by kernel_rfl) 17 (by kernel_rfl)).1
        clear hd hs
        refine outcome_value (v := .bool (!B)) ?_ ⟨rfl, hB, hrefl w⟩
        simp [go_sem, hc, s7, s17]
      exact trivial
    case hend =>
      intro V w6 hB6 hV
      have v14 : V 14 = .bool (!B) := hV 14 (by decide)
      simp only [lexF, Act.put, List.setIfInBounds_toArray, List.set_cons_zero, List.set_cons_succ, v14]
      have B6 := hid hB6
      clear hV hB6 v14 hrefl
      cases B with
      | true =>
        go_wp2
        go_ret2
        exact ⟨(HA.out.trans (by simp)).symm, B6.out⟩
      | false =>
        go_wp2
        go_ret2
        exact ⟨(HA.out.trans (by simp)).symm, B6.out⟩
  · have HA := hid (show A = .returned (.tuple #[.slice none 0 0, .int .i64 14]) from by
      rw [hA]; unfold ansO
      exact if_neg (fun h => h5 (by have := h.1; omega)))
    rw [← hA]
    have h5i : (n : Int) < 5 := by omega
    rw [← hn] at HX ⊢
    clear hA hB h5 hl hn
    go_enter Try.func58, Try.ntmps58
    go_upto_region 1 with fail
    refine region_rel (n := 24) (B := fun w' => Below w.heap.size w w') (E := fun w w' => Below w.heap.size w w') (φ := (fun (kq : Nat) (v : Value) (w : World) => v = ([.slice p n cap, .int .i64 (n : Int), .bool true, .bool true, undef, undef, undef, undef, undef, undef, undef, undef, undef, undef, .bool true] : List Value).getD kq undef)) (by kernel_rfl) (by kernel_rfl) (by kernel_rfl) (by kernel_rfl) (fun _ _ _ _ h _ => h) hrefl ((Below.refl _ _).drew) ?hop ?hend
    case hop =>
      refine And.intro ?_ ?_
      · intro V ρ w hB hc hf hd hs
        have s0 : ρ (.tmp 0) = .slice p n cap := hs 0 (by kernel_rfl)
        clear hd hs
        rw [BigFrame.run_move (.tmp 0) rfl]
        exact ⟨s0, hB, hrefl w⟩
      refine And.intro ?_ ?_
      · intro V ρ w hB hc hf hd hs
        have s4 : ρ (.tmp 4) = .slice p n cap := (hd 0 (by kernel_rfl) 4 (by kernel_rfl)).2.trans (hd 0 (by kernel_rfl) 4 (by kernel_rfl)).1
        clear hd hs
        refine outcome_value (v := .int .i64 (n : Int)) ?_ ⟨rfl, hB, hrefl w⟩
        simp [go_sem, s4]
      refine And.intro ?_ ?_
      · intro V ρ w hB hc hf hd hs
        have s5 : ρ (.tmp 5) = .int .i64 (n : Int) := (hd 1 (by kernel_rfl) 5 (by kernel_rfl)).2.trans (hd 1 (by kernel_rfl) 5 (by kernel_rfl)).1
        clear hd hs
        refine outcome_value (v := .bool true) ?_ ⟨rfl, hB, hrefl w⟩
        simp [go_sem, hc, s5, h5i]
      refine And.intro ?_ ?_
      · intro V ρ w hB hc hf hd hs
        have s6 : ρ (.tmp 6) = .bool true := (hd 2 (by kernel_rfl) 6 (by kernel_rfl)).2.trans (hd 2 (by kernel_rfl) 6 (by kernel_rfl)).1
        clear hd hs
        rw [BigFrame.run_move (.tmp 6) rfl]
        exact ⟨s6, hB, hrefl w⟩
      refine And.intro ?_ ?_
      · intro V ρ w hB hc hf hd hs
        have hgv : V 3 = .bool true := (hd 3 (by kernel_rfl) 7 (by kernel_rfl)).1
        exact Or.inr ⟨(by rw [hgv]; intro h; cases h), rfl⟩
      refine And.intro ?_ ?_
      · intro V ρ w hB hc hf hd hs
        have hgv : V 3 = .bool true := (hd 3 (by kernel_rfl) 7 (by kernel_rfl)).1
        exact Or.inr ⟨(by rw [hgv]; intro h; cases h), rfl⟩
      refine And.intro ?_ ?_
      · intro V ρ w hB hc hf hd hs
        have hgv : V 3 = .bool true := (hd 3 (by kernel_rfl) 7 (by kernel_rfl)).1
        exact Or.inr ⟨(by rw [hgv]; intro h; cases h), rfl⟩
      refine And.intro ?_ ?_
      · intro V ρ w hB hc hf hd hs
        have hgv : V 3 = .bool true := (hd 3 (by kernel_rfl) 7 (by kernel_rfl)).1
        exact Or.inr ⟨(by rw [hgv]; intro h; cases h), rfl⟩
      refine And.intro ?_ ?_
      · intro V ρ w hB hc hf hd hs
        have hgv : V 3 = .bool true := (hd 3 (by kernel_rfl) 7 (by kernel_rfl)).1
        exact Or.inr ⟨(by rw [hgv]; intro h; cases h), rfl⟩
      refine And.intro ?_ ?_
      · intro V ρ w hB hc hf hd hs
        have hgv : V 3 = .bool true := (hd 3 (by kernel_rfl) 7 (by kernel_rfl)).1
        exact Or.inr ⟨(by rw [hgv]; intro h; cases h), rfl⟩
      refine And.intro ?_ ?_
      · intro V ρ w hB hc hf hd hs
        have hgv : V 3 = .bool true := (hd 3 (by kernel_rfl) 7 (by kernel_rfl)).1
        exact Or.inr ⟨(by rw [hgv]; intro h; cases h), rfl⟩
      refine And.intro ?_ ?_
      · intro V ρ w hB hc hf hd hs
        have hgv : V 3 = .bool true := (hd 3 (by kernel_rfl) 7 (by kernel_rfl)).1
        exact Or.inr ⟨(by rw [hgv]; intro h; cases h), rfl⟩
      refine And.intro ?_ ?_
      · intro V ρ w hB hc hf hd hs
        have hgv : V 3 = .bool true := (hd 3 (by kernel_rfl) 7 (by kernel_rfl)).1
        exact Or.inr ⟨(by rw [hgv]; intro h; cases h), rfl⟩
      refine And.intro ?_ ?_
      · intro V ρ w hB hc hf hd hs
        have hgv : V 3 = .bool true := (hd 3 (by kernel_rfl) 7 (by kernel_rfl)).1
        exact Or.inr ⟨(by rw [hgv]; intro h; cases h), rfl⟩
      refine And.intro ?_ ?_
      · intro V ρ w hB hc hf hd hs
        have s7 : ρ (.tmp 7) = .bool true := (hd 3 (by kernel_rfl) 7 (by kernel_rfl)).2.trans (hd 3 (by kernel_rfl) 7 (by kernel_rfl)).1
        have s17 : ρ (.tmp 17) = undef := (hd 13 (by kernel_rfl) 17 (by kernel_rfl)).2.trans (hd 13 (by kernel_rfl) 17 (by kernel_rfl)).1
        clear hd hs
        refine outcome_value (v := .bool true) ?_ ⟨rfl, hB, hrefl w⟩
        simp [go_sem, hc, s7, s17]
      exact trivial
    case hend =>
      intro V w6 hB6 hV
      have v14 : V 14 = .bool true := hV 14 (by decide)
      simp only [lexF, Act.put, List.setIfInBounds_toArray, List.set_cons_zero, List.set_cons_succ, v14]
      have B6 := hid hB6
      clear hV hB6 v14 hrefl
      go_wp2
      go_ret2
      exact ⟨HA.out.symm, B6.out⟩
end Go.Proofs.Ytkehejkjifgieaa

/- Rows appended whole; the document's sender: Put. -/
namespace Go.Proofs.Ytkehejkjifgieaa
open Go.RowKit Go.ChangeMaps

theorem Rw.low' {w : World} {b b' : Nat} {T : TypeId} {v : Value} {xs : List Value} (h : Rw w b T v xs) (hb : b' ≤ b) : Rw w b' T v xs := by
  refine ⟨h.1, ?_⟩
  rcases h.2 with h | ⟨g, cap, cur, h1, h2, h3⟩
  · exact Or.inl h
  · exact Or.inr ⟨g, cap, cur, h1, Nat.le_trans hb h2, h3⟩
set_option maxRecDepth 100000 in
theorem run_rows {w : World} {base b' : Nat} {t e : TypeId} {z : Value} {by_ : Nat} (ht : Try.prog.underlying t = some (.slice e)) (hinf : (Try.prog.info? e).map (fun i => (i.zero, i.size, i.bytes)) = some (some z, 1, by_)) (hz : z.cells.size = 1) (hby : by_ ≤ 24)
    {v vx : Value} {xs ys : List Value} (O : Rw w base e v xs) (hy : Rw w b' e vx ys) (h1 : ∀ u ∈ ys, u.oneCell' = true) (hl : xs.length + ys.length ≤ 1000000) (hb : base ≤ w.heap.size) (ty : TypeId) :
    ∃ v' w', (Builtin.append_ #[t, t] ty #[v, vx]).run Try.prog w = .ok v' w' ∧ Rw w' base e v' (xs ++ ys) ∧ Mod (fun k => v.ownBlock = some k) w w' ∧ (v'.ownBlock = v.ownBlock ∨ v'.ownBlock = some w.heap.size) := by
  obtain ⟨i0, hi, hz0, hz1, hz2⟩ := info_parts hinf
  rcases hy.2 with ⟨rfl, h0⟩ | ⟨g, cap, cur, rfl, _, h2, h3, h4, h5, h6⟩
  · have hy0 : ys = [] := List.eq_nil_of_length_eq_zero h0
    subst hy0
    rw [List.append_nil]
    obtain ⟨p, c, hv⟩ := O.slice
    have hle : xs.length ≤ c := by
      rcases O.2 with ⟨e1, e2⟩ | ⟨g, cap, cur, e1, _, _, e3, _⟩
      · rw [e2]; exact Nat.zero_le _
      · rw [hv] at e1; cases e1; exact e3
    refine ⟨v, w, ?_, O, Mod.refl _ _, Or.inl rfl⟩
    rw [hv]
    refine run_append_nothing w t t ty e i0 ht hi p xs.length c hle (.slice none 0 0) ⟨Or.inl ⟨_, ht⟩, fun _ => rfl, ?_, ?_, by simp, by simp⟩
    · rw [hz1]; rfl
    · rw [hz1]; rfl
  · have hb1 : (xs.length + ys.length) * by_ ≤ 140737488355328 := Nat.le_trans (Nat.mul_le_mul hl hby) (by decide)
    have hB : Blk w g cur e := h2
    obtain ⟨v', w', hr, k2, k3, k4, k5⟩ := run_append_own_at (P := Try.prog) w base t ty e i0 z 1 by_ ht hi hz0 hz1 hz2 hz (by decide) v xs.length xs O ⟨g, 0, none⟩ ys.length cap ys (by omega) (fun j u hu => by
      obtain ⟨hj, hu⟩ := List.getElem?_eq_some_iff.1 hu
      rw [Addr.add_mid, Nat.zero_add]
      refine hB.cellv ?_
      rw [← Array.getElem?_toList, ← List.getElem?_take_of_lt (show j < ys.length * 1 by omega), h6, List.getElem?_eq_getElem hj, hu]) h1 (by unfold maxLen; omega) hb1 hb
    refine ⟨v', w', hr, ?_, Mod.of_grown k3 (fun kk hk => hk), k5⟩
    unfold Rw
    rw [List.length_append]
    exact k2
theorem wpList_rows {w : World} {ops : Array Oper} {rest : List Oper} {o : Oper} {a : Act} {Q : Exit → Act → World → Prop} (hgd : o.guard = none) (s x : Operand) (t e : TypeId) {z : Value} {by_ : Nat}
    (ho : o.op = .call { callee := .builtin .append, args := #[s, x], argTypes := #[t, t] }) (ht : Try.prog.underlying t = some (.slice e)) (hinf : (Try.prog.info? e).map (fun i => (i.zero, i.size, i.bytes)) = some (some z, 1, by_)) (hz : z.cells.size = 1) (hby : by_ ≤ 24)
    {base b' : Nat} {v vx : Value} {xs ys : List Value} (hs : a.eval s = v) (hx : a.eval x = vx) (O : Rw w base e v xs) (hy : Rw w b' e vx ys) (h1 : ∀ u ∈ ys, u.oneCell' = true)
    (hl : xs.length + ys.length ≤ 1000000) (hbase : base ≤ w.heap.size)
    (h : ∀ v' w', Rw w' base e v' (xs ++ ys) → Mod (fun k => v.ownBlock = some k) w w' → (v'.ownBlock = v.ownBlock ∨ v'.ownBlock = some w.heap.size) → wpList Try.prog ops Q rest (a.put o.dst v') w') : wpList Try.prog ops Q (o :: rest) a w := by
  refine wpList_plain hgd fun K hK => ?_
  obtain ⟨v', w', hr, h2, h3, h4⟩ := run_rows ht hinf hz hby O hy h1 hl hbase o.type
  unfold Oper.wp execOp
  simp only [ho, resolve, invoke, builtin, Sem.run_bind, Sem.run_pure, Result.andThen_ok, List.map_toArray, List.map_cons, List.map_nil, hs, hx, hr]
  exact hK _ _ (h v' w' h2 h3 h4)
theorem info_bool : (Try.prog.info? 4).map (fun i => (i.zero, i.size, i.bytes)) = some (some (.bool false), 1, 1) := by kernel_rfl
theorem info_u64 : (Try.prog.info? 31).map (fun i => (i.zero, i.size, i.bytes)) = some (some (.int .u64 0), 1, 8) := by kernel_rfl
theorem results_cell2 {fn : Func} {p u : Tmp} {ty : TypeId} (h : fn.results = #[.cell p ty, .tmp u]) (tmps : Array Value) (w : World) (g : Nat) (cs : Array Value) (v3 : Value)
    (hp : tmps.getD p undef = .pointer (some ⟨g, 0, none⟩)) (hv : tmps.getD u undef = v3) (hl : (loadVar ty ⟨g, 0, none⟩).run Try.prog w = .ok (.agg cs) w) :
    (results fn tmps).run Try.prog w = .ok (.tuple #[.agg cs, v3]) w := by
  rw [results_cell_tmp h, hp, hv]
  simp [asAddr, hl, Result.andThen]
theorem load_blk {w : World} {g : Nat} {cs : Array Value} {T ty : TypeId} {d : TypeDesc} (h : Blk w g cs T) (hu : Try.prog.underlying ty = some d) (hd : d.isRow = true) (hi : (Try.prog.info? ty).map (·.size) = some cs.size) : (loadVar ty ⟨g, 0, none⟩).run Try.prog w = .ok (.agg cs) w := by
  have := run_loadVar_mid (P := Try.prog) w g 0 ty cs.toList d (fun j v hv => by rw [Nat.zero_add]; exact h.cellv (by rw [← Array.getElem?_toList]; exact hv)) hu hd (by rw [hi, Array.length_toList])
  simpa using this
theorem info44 (a b c d : Value) : (Try.prog.info? 44).map (·.size) = some (#[a, b, c, d] : Array Value).size := by kernel_rfl
theorem Blk.below {w w' : World} {k : Nat} {cs : Array Value} {T : TypeId} (h : Blk w k cs T) (hb : Below w.heap.size w w') : Blk w' k cs T := h.of_block (hb.block k h.lt)
theorem Rw.apart {w w' : World} {b b' : Nat} {T T' : TypeId} {v u : Value} {xs ys : List Value} (h : Rw w b T v xs) (hu : Rw w b' T' u ys) (hT : T ≠ T') (M : Mod (fun k => u.ownBlock = some k) w w') : Rw w' b T v xs := h.mod M (fun k hk e => by
  obtain ⟨cs, b1⟩ := h.kind hk
  obtain ⟨cs', b2⟩ := hu.kind e
  exact hT (Blk.inj b1 b2).2)
theorem Blk.apart {w w' : World} {b' k : Nat} {T T' : TypeId} {u : Value} {cs : Array Value} {ys : List Value} (h : Blk w k cs T) (hu : Rw w b' T' u ys) (hT : T ≠ T') (M : Mod (fun k => u.ownBlock = some k) w w') : Blk w' k cs T := M.blk h (fun e => by
  obtain ⟨cs', b2⟩ := hu.kind e
  exact hT (Blk.inj h b2).2)
theorem Rw.mod_below {w0 w w' : World} {b : Nat} {T : TypeId} {v : Value} {xs : List Value} (h : Rw w b T v xs) (M : Mod (fun k => v.ownBlock = some k) w w') (hb : Below w0.heap.size w0 w) (hw : w0.heap.size ≤ b) : Below w0.heap.size w0 w' := hb.trans (M.below hb.size (fun k hk e => by have := (h.lt k e).1; omega))
theorem one4 {a b c d : Value} (ha : a.oneCell' = true) (hb : b.oneCell' = true) (hc : c.oneCell' = true) (hd : d.oneCell' = true) : (#[a, b, c, d] : Array Value).all (·.oneCell') = true := by simp [ha, hb, hc, hd]
theorem Blk.setRow {w : World} {g : Nat} {old : Array Value} {T : TypeId} (h : Blk w g old T) (cs : Array Value) : Blk (w.setRow g cs) g cs T := setRow_heap w g old cs T (0, 0) h
theorem Mod.setRow (w : World) (g : Nat) (cs : Array Value) : Mod (fun k => k = g) w (w.setRow g cs) := ⟨rfl, rfl, rfl, Nat.le_of_eq (setRow_size w g cs).symm, fun k _ hk => setRow_other w g k cs hk⟩
theorem Rw.setRow {w : World} {base g : Nat} {T T' : TypeId} {v : Value} {xs : List Value} {old : Array Value} (h : Rw w base T v xs) (hg : Blk w g old T') (hT : T ≠ T') (cs : Array Value) : Rw (w.setRow g cs) base T v xs := h.mod (Mod.setRow w g cs) (fun k hk e => by
  obtain ⟨cs', hb⟩ := h.kind hk
  rw [e] at hb
  exact hT (Blk.inj hb hg).2)
/-- The document's sender, as a value of four cells. -/
structure DS (w : World) (base : Nat) (vL vH vT : Value) (L : List (List W8)) (H : List Bool) (T : List Nat) : Prop where
  l : Sr w base vL L
  h : Rw w base 4 vH (H.map (fun q => .bool q))
  t : Rw w base 31 vT (T.map (fun (n : Nat) => Value.int .u64 (n : Int)))
def dsV (vL vH vT : Value) (b : Nat) : Array Value := #[vL, .int .i64 (b : Int), vH, vT]
section
variable {w w' : World} {base : Nat} {vL vH vT : Value} {L : List (List W8)} {H : List Bool} {T : List Nat}
theorem DS.below (h : DS w base vL vH vT L H T) (hb : Below w.heap.size w w') : DS w' base vL vH vT L H T := ⟨h.l.below hb, h.h.below hb, h.t.below hb⟩
theorem DS.low {b' : Nat} (h : DS w base vL vH vT L H T) (hb : b' ≤ base) : DS w b' vL vH vT L H T := ⟨Rw.low' h.l hb, h.h.low' hb, h.t.low' hb⟩
theorem DS.kp {Ts : List TypeId} {b : Nat} (h : DS w base vL vH vT L H T) (k : Kp Ts b w w') (h1 : 9 ∉ Ts) (h2 : 4 ∉ Ts) (h3 : 31 ∉ Ts) : DS w' base vL vH vT L H T := ⟨h.l.kp k h1, k.rw h.h h2, k.rw h.t h3⟩
end
set_option maxRecDepth 100000 in
set_option maxHeartbeats 4000000 in
theorem rputm_c {w : World} {base b : Nat} {vL vH vT vb : Value} {L : List (List W8)} {H : List Bool} {T : List Nat} {xs : List W8} (h : DS w base vL vH vT L H T) (hX : Bytes w vb xs) (hL : L.length ≤ 1000) (hH : H.length ≤ 1000) (hT : T.length ≤ 1000) (hb : b ≤ L.length) :
    Calls Try.prog 30 #[.agg (dsV vL vH vT b), vb] w fun e w' => (if 500 < xs.length then e = .returned (.tuple #[.agg (dsV vL vH vT b), .int .i64 4]) else if 200 ≤ L.length - b then e = .returned (.tuple #[.agg (dsV vL vH vT b), .int .i64 7]) else
      ∃ vL' vH' vT', e = .returned (.tuple #[.agg (dsV vL' vH' vT' b), .int .i64 0]) ∧ DS w' w.heap.size vL' vH' vT' (L ++ [xs]) (H ++ [false]) (T ++ [0])) ∧ Below w.heap.size w w' := by
  unfold dsV
  obtain ⟨pL, cL, eL⟩ := h.l.slice
  subst eL
  obtain ⟨pH, cH, eH⟩ := h.h.slice
  subst eH
  obtain ⟨pT, cT, eT⟩ := h.t.slice
  subst eT
  rw [List.length_map] at h
  rw [List.length_map] at h
  rw [List.length_map, List.length_map]
  obtain ⟨pb, cb, eb, hq⟩ := hX
  subst eb
  have HB := hid (show Bytes w (.slice pb xs.length cb) xs from ⟨pb, cb, rfl, hq⟩)
  have DH := hid h
  obtain ⟨n, hn⟩ : ∃ n, n = L.length := ⟨_, rfl⟩
  have HN := hid hn
  rw [← hn] at hL hb DH ⊢
  obtain ⟨k, hk⟩ : ∃ k, k = xs.length := ⟨_, rfl⟩
  have HK := hid hk
  rw [← hk] at HB ⊢
  obtain ⟨nH, hnH⟩ : ∃ k, k = H.length := ⟨_, rfl⟩
  have HNH := hid hnH
  rw [← hnH] at hH DH ⊢
  obtain ⟨nT, hnT⟩ : ∃ k, k = T.length := ⟨_, rfl⟩
  have HNT := hid hnT
  rw [← hnT] at hT DH ⊢
  have hcv := conv_str' HB.out
  have hz : ∀ W : World, (zeroValue 44).run Try.prog W = .ok (.agg #[.slice none 0 0, .int .i64 0, .slice none 0 0, .slice none 0 0]) W := fun _ => rfl
  clear h hq hn hk hnH hnT
  by_cases h5 : 500 < k
  · have h5i : (500 : Int) < (k : Int) := by omega
    simp only [if_pos h5]
    go_enter Try.func30, Try.ntmps30
    go_wp2
    refine bodyPost_ret (v := .tuple #[.agg #[.slice pL n cL, .int .i64 (b : Int), .slice pH nH cH, .slice pT nT cT], .int .i64 4]) (results_cell2 rfl _ _ (w.heap.size + 1) _ _ rfl rfl (load_blk (by have := Blk.new (w.alloc (.cells #[.slice pL n cL, .int .i64 (b : Int), .slice pH nH cH, .slice pT nT cT] 44)) #[.slice pL n cL, .int .i64 (b : Int), .slice pH nH cH, .slice pT nT cT] 44; simpa using this) Try.underlying44 rfl (info44 _ _ _ _))) rfl ?_
    exact ⟨rfl, ((Below.refl _ _).alloc (Nat.le_refl _) _).alloc (by simp) _⟩
  · have h5i : ¬ (500 : Int) < (k : Int) := by omega
    simp only [if_neg h5]
    by_cases h2 : 200 ≤ n - b
    · have h2i : (200 : Int) ≤ (n : Int) - (b : Int) := by omega
      simp only [if_pos h2]
      go_enter Try.func30, Try.ntmps30
      go_wp2
      refine bodyPost_ret (v := .tuple #[.agg #[.slice pL n cL, .int .i64 (b : Int), .slice pH nH cH, .slice pT nT cT], .int .i64 7]) (results_cell2 rfl _ _ (w.heap.size + 1) _ _ rfl rfl (load_blk (by have := Blk.new (w.alloc (.cells #[.slice pL n cL, .int .i64 (b : Int), .slice pH nH cH, .slice pT nT cT] 44)) #[.slice pL n cL, .int .i64 (b : Int), .slice pH nH cH, .slice pT nT cT] 44; simpa using this) Try.underlying44 rfl (info44 _ _ _ _))) rfl ?_
      exact ⟨rfl, ((Below.refl _ _).alloc (Nat.le_refl _) _).alloc (by simp) _⟩
    · have h2i : ¬ (200 : Int) ≤ (n : Int) - (b : Int) := by omega
      simp only [if_neg h2]
      go_enter Try.func30, Try.ntmps30
      go_upto_region 5 with fail
      obtain ⟨wA, hwA⟩ : ∃ wA, wA = (w.alloc (.cells #[.slice pL n cL, .int .i64 (b : Int), .slice pH nH cH, .slice pT nT cT] 44)).alloc (.cells #[.slice none 0 0, .int .i64 0, .slice none 0 0, .slice none 0 0] 44) := ⟨_, rfl⟩
      have BA := hid (show Below w.heap.size w wA by rw [hwA]; exact ((Below.refl _ _).alloc (Nat.le_refl _) _).alloc (by simp) _)
      have K2 := hid (show Blk wA w.heap.size #[.slice pL n cL, .int .i64 (b : Int), .slice pH nH cH, .slice pT nT cT] 44 by rw [hwA]; exact (Blk.new w _ _).alloc _)
      have K4 := hid (show Blk wA (w.heap.size + 1) #[.slice none 0 0, .int .i64 0, .slice none 0 0, .slice none 0 0] 44 by rw [hwA]; have := Blk.new (w.alloc (.cells #[.slice pL n cL, .int .i64 (b : Int), .slice pH nH cH, .slice pT nT cT] 44)) #[.slice none 0 0, .int .i64 0, .slice none 0 0, .slice none 0 0] 44; simpa using this)
      have hsz := hid (show w.heap.size + 1 < wA.heap.size from K4.out.lt)
      have DA := hid (DH.out.below BA.out)
      rw [← hwA]
      clear hwA hcv
      have c05 : wA.cell? ⟨w.heap.size, 0, none⟩ = some (.slice pL n cL) := K2.out.cellv rfl
      have hl5 : w.heap.size < wA.heap.size := K2.out.lt
      have E5 := hid (Rw.empty (Blk.new wA #[] 9) (Nat.le_refl wA.heap.size))
      have A5 := hid ((Below.refl wA.heap.size wA).alloc (Nat.le_refl _) (.cells #[] 9))
      go_upto_region 6 with (at_builtin; refine wpList_rows rfl (.tmp 21) (.tmp 23) 40 9 rfl Try.underlying40 info_string rfl (by decide) rfl rfl E5.out (DA.out.below A5.out).l (fun u hu => by obtain ⟨l, _, rfl⟩ := List.mem_map.1 hu; rfl) (by rw [List.length_map]; have := HN.out; simp only [List.length_nil]; omega) (by simp) ?_; intro va5 w5 R N o; have R5 := hid R; have N5 := hid N; clear R N o)
      have R5 : Hid (Rw w5 wA.heap.size 9 va5 (L.map (fun l => (Value.string (str l))))) := R5
      have B5 := hid (E5.out.mod_below N5.out A5.out (Nat.le_refl _))
      have X5 := hid (Blk.new w5 #[.string (str xs)] 9)
      have hcv := conv_str' (HB.out.below (BA.out.trans (B5.out.mono BA.out.size)))
      go_upto_region 7 with (at_builtin; refine wpList_push rfl (.tmp 25) (.tmp 28) 40 9 rfl Try.underlying40 info_string rfl (by decide) rfl rfl (R5.out.alloc _) (X5.out.cellv rfl) rfl (by rw [List.length_map]; have := HN.out; omega) (by have := B5.out.size; simp; omega) ?_; intro va6 w6 R N o; have R6 := hid R; have N6 := hid N; clear R N o)
      have A6 := hid ((Below.refl w5.heap.size w5).alloc (Nat.le_refl _) (.cells #[.string (str xs)] 9))
      have B6 := hid (show Below wA.heap.size wA w6 from (R5.out.alloc _).mod_below N6.out (B5.out.trans (A6.out.mono B5.out.size)) (Nat.le_refl _))
      have K25 := hid (K2.out.below B6.out)
      have K45 := hid (K4.out.below B6.out)
      have DB6 := hid (DA.out.below B6.out)
      clear c05 hl5 E5 A5 R5 N5 X5 N6 A6 hcv
      have c27 : w6.cell? ⟨w.heap.size, 2, none⟩ = some (.slice pH nH cH) := K25.out.cellv rfl
      have hl7 : w.heap.size < w6.heap.size := K25.out.lt
      have E7 := hid (Rw.empty (Blk.new w6 #[] 4) (Nat.le_refl w6.heap.size))
      have A7 := hid ((Below.refl w6.heap.size w6).alloc (Nat.le_refl _) (.cells #[] 4))
      go_upto_region 8 with (at_builtin; refine wpList_rows rfl (.tmp 30) (.tmp 32) 41 4 rfl Try.underlying41 info_bool rfl (by decide) rfl rfl E7.out (DB6.out.below A7.out).h (fun u hu => by obtain ⟨l, _, rfl⟩ := List.mem_map.1 hu; rfl) (by rw [List.length_map]; have := HNH.out; simp only [List.length_nil]; omega) (by simp) ?_; intro va7 w7 R N o; have R7 := hid R; have N7 := hid N; clear R N o)
      have R7 : Hid (Rw w7 w6.heap.size 4 va7 (H.map (fun q => (Value.bool q)))) := R7
      have B7 := hid (E7.out.mod_below N7.out A7.out (Nat.le_refl _))
      have X7 := hid (Blk.new w7 #[.bool false] 4)
      go_upto_region 9 with (at_builtin; refine wpList_push rfl (.tmp 34) (.tmp 35) 41 4 rfl Try.underlying41 info_bool rfl (by decide) rfl rfl (R7.out.alloc _) (X7.out.cellv rfl) rfl (by rw [List.length_map]; have := HNH.out; omega) (by have := B7.out.size; simp; omega) ?_; intro va8 w8 R N o; have R8 := hid R; have N8 := hid N; clear R N o)
      have A8 := hid ((Below.refl w7.heap.size w7).alloc (Nat.le_refl _) (.cells #[.bool false] 4))
      have B8 := hid (show Below w6.heap.size w6 w8 from (R7.out.alloc _).mod_below N8.out (B7.out.trans (A8.out.mono B7.out.size)) (Nat.le_refl _))
      have K27 := hid (K25.out.below B8.out)
      have K47 := hid (K45.out.below B8.out)
      have DB8 := hid (DB6.out.below B8.out)
      have R6 := hid (R6.out.below B8.out)
      clear c27 hl7 E7 A7 R7 N7 X7 N8 A8
      have c39 : w8.cell? ⟨w.heap.size, 3, none⟩ = some (.slice pT nT cT) := K27.out.cellv rfl
      have hl9 : w.heap.size < w8.heap.size := K27.out.lt
      have E9 := hid (Rw.empty (Blk.new w8 #[] 31) (Nat.le_refl w8.heap.size))
      have A9 := hid ((Below.refl w8.heap.size w8).alloc (Nat.le_refl _) (.cells #[] 31))
      go_upto_region 10 with (at_builtin; refine wpList_rows rfl (.tmp 37) (.tmp 39) 42 31 rfl Try.underlying42 info_u64 rfl (by decide) rfl rfl E9.out (DB8.out.below A9.out).t (fun u hu => by obtain ⟨l, _, rfl⟩ := List.mem_map.1 hu; rfl) (by rw [List.length_map]; have := HNT.out; simp only [List.length_nil]; omega) (by simp) ?_; intro va9 w9 R N o; have R9 := hid R; have N9 := hid N; clear R N o)
      have R9 : Hid (Rw w9 w8.heap.size 31 va9 (T.map (fun (n : Nat) => Value.int .u64 (n : Int)))) := R9
      have B9 := hid (E9.out.mod_below N9.out A9.out (Nat.le_refl _))
      have X9 := hid (Blk.new w9 #[.int .u64 0] 31)
      go_upto_region 11 with (at_builtin; refine wpList_push rfl (.tmp 41) (.tmp 42) 42 31 rfl Try.underlying42 info_u64 rfl (by decide) rfl rfl (R9.out.alloc _) (X9.out.cellv rfl) rfl (by rw [List.length_map]; have := HNT.out; omega) (by have := B9.out.size; simp; omega) ?_; intro va10 w10 R N o; have R10 := hid R; have N10 := hid N; clear R N o)
      have A10 := hid ((Below.refl w9.heap.size w9).alloc (Nat.le_refl _) (.cells #[.int .u64 0] 31))
      have B10 := hid (show Below w8.heap.size w8 w10 from (R9.out.alloc _).mod_below N10.out (B9.out.trans (A10.out.mono B9.out.size)) (Nat.le_refl _))
      have K29 := hid (K27.out.below B10.out)
      have K49 := hid (K47.out.below B10.out)
      have DB10 := hid (DB8.out.below B10.out)
      have R6 := hid (R6.out.below B10.out)
      have R8 := hid (R8.out.below B10.out)
      clear c39 hl9 E9 A9 R9 N9 X9 N10 A10
      have c111 : w10.cell? ⟨w.heap.size, 1, none⟩ = some (.int .i64 (b : Int)) := K29.out.cellv rfl
      have hl1 : w.heap.size < w10.heap.size := K29.out.lt
      have e6 := R6.out.slice
      obtain ⟨p6, c6, e6⟩ := e6
      subst e6
      obtain ⟨p8, c8, e8⟩ := R8.out.slice
      subst e8
      obtain ⟨p10, c10, e10⟩ := R10.out.slice
      subst e10
      have hsz2 := hid (show wA.heap.size ≤ w6.heap.size ∧ w6.heap.size ≤ w8.heap.size from ⟨B6.out.size, B8.out.size⟩)
      have DD := hid (show DS (w10.setRow (w.heap.size + 1) #[.slice p6 (L.map (fun l => (Value.string (str l))) ++ [#[Value.string (str xs)][0]]).length c6, .int .i64 (b : Int), .slice p8 (H.map (fun q => (Value.bool q)) ++ [#[Value.bool false][0]]).length c8, .slice p10 (T.map (fun (n : Nat) => Value.int .u64 (n : Int)) ++ [#[Value.int .u64 0][0]]).length c10]) w.heap.size (.slice p6 (L.map (fun l => (Value.string (str l))) ++ [#[Value.string (str xs)][0]]).length c6) (.slice p8 (H.map (fun q => (Value.bool q)) ++ [#[Value.bool false][0]]).length c8) (.slice p10 (T.map (fun (n : Nat) => Value.int .u64 (n : Int)) ++ [#[Value.int .u64 0][0]]).length c10) (L ++ [xs]) (H ++ [false]) (T ++ [0]) from by
        have hs := hsz.out
        have h2 := hsz2.out
        refine ⟨?_, ?_, ?_⟩
        · unfold Sr
          rw [List.map_append]
          exact (R6.out.low' (by omega)).setRow K49.out (by decide) _
        · rw [List.map_append]
          exact (R8.out.low' (by omega)).setRow K49.out (by decide) _
        · rw [List.map_append]
          exact (R10.out.low' (by omega)).setRow K49.out (by decide) _)
      have BE := hid (show Below w.heap.size w w10 from ((BA.out.trans (B6.out.mono (by have := hsz.out; omega))).trans (B8.out.mono (by have := hsz.out; have := hsz2.out; omega))).trans (B10.out.mono (by have := hsz.out; have := hsz2.out; omega)))
      simp only [List.length_append, List.length_map, List.length_cons, List.length_nil, Nat.zero_add] at DD ⊢
      go_wp2_with ((with_reducible refine at_op (.store 44 (.tmp 4) (.tmp 49)) rfl ?_); refine wpList_store_row rfl 44 (.tmp 4) (.tmp 49) rfl (w.heap.size + 1) #[.slice p6 (L.length + 1) c6, .int .i64 (b : Int), .slice p8 (H.length + 1) c8, .slice p10 (T.length + 1) c10] rfl rfl _ _ K49.out (info44 _ _ _ _) rfl (one4 rfl rfl rfl rfl) ?_)
      refine bodyPost_ret (results_cell2 rfl _ _ (w.heap.size + 1) _ _ rfl rfl (load_blk (K49.out.setRow _) Try.underlying44 rfl (info44 _ _ _ _))) rfl ?_
      exact ⟨⟨_, _, _, rfl, DD.out⟩, (BE.out.trans ((Mod.setRow _ _ _).below (by have := BE.out.size; omega) (fun k hk e => by omega)))⟩
end Go.Proofs.Ytkehejkjifgieaa

/- The document's TakeString. -/
namespace Go.Proofs.Ytkehejkjifgieaa
open Go.RowKit Go.ChangeMaps

set_option maxRecDepth 100000 in
set_option maxHeartbeats 2000000 in
theorem rtakeString_c {w : World} {v : Value} {xs : List W8} (hX : Bytes w v xs) (hl : xs.length ≤ 100000) (most : Nat) (hm : most ≤ 100000) :
    Calls Try.prog 60 #[v, .int .i64 most] w fun e w' => (∃ v1 v2, e = .returned (.tuple #[v1, v2, .int .i64 (takeStr most xs).1]) ∧ Bytes w' v1 (takeStr most xs).2.1 ∧ Bytes w' v2 (takeStr most xs).2.2) ∧ Below w.heap.size w w' := by
  have CT := hid (rtake_c hX hl)
  have HB := hid hX
  obtain ⟨px, cx, rfl, _⟩ := hX
  unfold RTakeAns at CT
  unfold takeStr
  by_cases h0 : (takeN xs).1 = 0
  · simp only [if_pos h0] at CT ⊢
    have HD := hid (show Bytes w (.slice px xs.length cx) xs from HB.out)
    obtain ⟨n, hn⟩ : ∃ n, n = (takeN xs).2.1 := ⟨_, rfl⟩
    obtain ⟨ys, hy⟩ : ∃ ys, ys = xs.drop (takeN xs).2.2 := ⟨_, rfl⟩
    have hyl := hid (show ys.length ≤ 100000 by rw [hy, List.length_drop]; omega)
    rw [← hn, ← hy] at CT ⊢
    clear hn hy h0 HD HB
    have hm0 : ¬ (most : Int) < 0 := by omega
    have hm1 : IntKind.u64.wrap (most : Int) = (most : Int) := by simp [IntKind.wrap, IntKind.bits, IntKind.signed]; omega
    by_cases hmn : most < n
    · simp only [if_pos hmn]
      have hmi : (most : Int) < (n : Int) := by omega
      go_enter Try.func60, Try.ntmps60
      go_wp2_with (go_at_call 72; refine CT.out.mono ?_; rintro e w1 ⟨⟨v1, rfl, O1, _⟩, hb1⟩; have L1 := hid hb1; clear O1 hb1)
      go_ret3
      exact ⟨⟨_, _, rfl, (Ow.nil _ 0).bytes, (Ow.nil _ 0).bytes⟩, L1.out⟩
    · simp only [if_neg hmn]
      have hmi : ¬ (most : Int) < (n : Int) := by omega
      by_cases hny : n ≤ ys.length
      · simp only [if_pos hny]
        have hnyi : ¬ (ys.length : Int) < (n : Int) := by omega
        go_enter Try.func60, Try.ntmps60
        go_upto_region 6 with (go_at_call 72; refine CT.out.mono ?_; rintro e w1 ⟨⟨v1, rfl, O1, _⟩, hb1⟩; have L1 := hid hb1; have P1 := hid (O1.below hb1); clear O1 hb1; obtain ⟨p1, c1, rfl, _⟩ := P1.out)
        rcases bytes_nil_or P1.out with ⟨cap, e1, rfl⟩ | ⟨ad, cap, e1⟩
        · have hk0 : n = 0 := by simpa using hny
          subst hk0
          cases e1
          go_upto_region 8 with fail
          refine region_wd (by kernel_rfl) (by kernel_rfl) ?_
          repeat (first
            | go_big_quiet_skip
            | (go_big_quiet_want
               go_big_quiet_op
               go_big_quiet_on))
          refine wpQuiet_nil ?_
          rintro _ ⟨nq, rfl⟩
          go_wp2
          go_ret3
          exact ⟨⟨_, _, rfl, ⟨_, _, rfl, fun h => by simp at h⟩, ⟨_, _, rfl, fun h => by simp at h⟩⟩, L1.out.trans (nq.h.mono L1.out.size)⟩
        · cases e1
          have Ba := hid (P1.out.take n hny)
          have hcap := P1.out.len_le
          have HY := hid P1.out
          obtain ⟨N, hN⟩ : ∃ N, N = ys.length := ⟨_, rfl⟩
          have hkcap : n ≤ c1 := by
            by_cases h : 0 < N
            · have := (hcap (by omega)).2; omega
            · omega
          have key : (c1 = n ∧ Hid (Bytes w1 (.slice (some ad) (N - n) 0) (ys.drop n))) ∨ (c1 ≠ n ∧ Hid (Bytes w1 (.slice (some (ad.add n)) (N - n) (c1 - n)) (ys.drop n))) := by
            have := HY.out.drop n hny
            unfold cutAt at this
            rw [← hN] at this
            by_cases hck : c1 = n
            · refine Or.inl ⟨hck, hid ?_⟩
              rw [if_pos hck, show c1 - n = 0 by omega] at this
              exact this
            · refine Or.inr ⟨hck, hid ?_⟩
              rw [if_neg hck] at this
              exact this
          have hN1 : N ≤ 100000 := by rw [hN]; exact hyl.out
          rw [← hN] at hny hnyi ⊢
          clear HY P1 hN hcap hyl CT
          have hkn : (n : Int) ≤ (N : Int) := by omega
          have hkci : (n : Int) ≤ (c1 : Int) := by omega
          rcases key with ⟨rfl, Bb⟩ | ⟨hck, Bb⟩
          all_goals
            go_upto_region 8 with fail
            refine region_wd (by kernel_rfl) (by kernel_rfl) ?_
            repeat (first
              | go_big_quiet_skip
              | (go_big_quiet_want
                 go_big_quiet_op
                 go_big_quiet_on))
            refine wpQuiet_nil ?_
            rintro _ ⟨nq, rfl⟩
            go_wp2
            go_ret3
            refine ⟨⟨_, _, rfl, Ba.out.below nq.h, ?_⟩, L1.out.trans (nq.h.mono L1.out.size)⟩
            first
              | exact Bb.out.below nq.h
              | (have := Bb.out.below nq.h; simpa using this)
      · simp only [if_neg hny]
        have hnyi : (ys.length : Int) < (n : Int) := by omega
        go_enter Try.func60, Try.ntmps60
        go_upto_region 6 with (go_at_call 72; refine CT.out.mono ?_; rintro e w1 ⟨⟨v1, rfl, O1, _⟩, hb1⟩; have L1 := hid hb1; have P1 := hid (O1.below hb1); clear O1 hb1; obtain ⟨p1, c1, rfl, _⟩ := P1.out)
        go_wp2
        go_ret3
        exact ⟨⟨_, _, rfl, (Ow.nil _ 0).bytes, (Ow.nil _ 0).bytes⟩, L1.out⟩
  · simp only [if_neg h0] at CT ⊢
    have e0 : ((takeN xs).1 != 0) = true := by simpa using h0
    obtain ⟨c, hc⟩ : ∃ c, c = (takeN xs).1 := ⟨_, rfl⟩
    rw [← hc] at CT e0 h0 ⊢
    clear hc
    go_enter Try.func60, Try.ntmps60
    go_wp2_with (go_at_call 72; refine CT.out.mono ?_; rintro e w1 ⟨rfl, hb1⟩; have L1 := hid hb1; clear hb1)
    go_ret3
    exact ⟨⟨_, _, rfl, (Ow.nil _ 0).bytes, (Ow.nil _ 0).bytes⟩, L1.out⟩
theorem rtakeString_k {w : World} {v : Value} {xs : List W8} (hX : Bytes w v xs) (hl : xs.length ≤ 100000) (K : Int) (most : Nat) (hK : K = (most : Int)) (hm : most ≤ 100000) {s : Int × List W8 × List W8} (hs : s = takeStr most xs) :
    Calls Try.prog 60 #[v, .int .i64 K] w fun e w' => (∃ v1 v2, e = .returned (.tuple #[v1, v2, .int .i64 s.1]) ∧ Bytes w' v1 s.2.1 ∧ Bytes w' v2 s.2.2) ∧ Below w.heap.size w w' := by
  subst hK hs
  exact rtakeString_c hX hl most hm
end Go.Proofs.Ytkehejkjifgieaa

/- The document's Hear: an answer to its sender. -/
namespace Go.Proofs.Ytkehejkjifgieaa
open Go.RowKit Go.ChangeMaps

theorem Blk.rangeAt {w : World} {g : Nat} {cs : Array Value} {T : TypeId} (h : Blk w g cs T) : w.rangeAt g 0 cs.toList := fun j v hv => by rw [Nat.zero_add]; exact h.cellv (by rw [← Array.getElem?_toList]; exact hv)
theorem wpList_load_blk {ops : Array Oper} {rest : List Oper} {op : Oper} {a : Act} {w : World} {Q : Exit → Act → World → Prop} (hgd : op.guard = none) (ty : TypeId) (x : Operand) (ho : op.op = .load ty x)
    (g : Nat) (hx : a.eval x = .pointer (some ⟨g, 0, none⟩)) {cs : Array Value} {T : TypeId} {d : TypeDesc} (hB : Blk w g cs T) (hu : Try.prog.underlying ty = some d) (hd : d.isRow = true) (hi : (Try.prog.info? ty).map (·.size) = some cs.size)
    (h : wpList Try.prog ops Q rest (a.put op.dst (.agg cs)) w) : wpList Try.prog ops Q (op :: rest) a w :=
  wpList_load_mid hgd ty x ho g 0 hx cs.toList d hB.rangeAt hu hd (by rw [hi, Array.length_toList]) (by rw [Array.toArray_toList]; exact h)
theorem wpList_store_blk {ops : Array Oper} {rest : List Oper} {o : Oper} {a : Act} {w : World} {Q : Exit → Act → World → Prop} (hgd : o.guard = none) (ty : TypeId) (x y : Operand) (ho : o.op = .store ty x y)
    (g : Nat) {cells old : Array Value} {T : TypeId} (hx : a.eval x = .pointer (some ⟨g, 0, none⟩)) (hy : a.eval y = .agg cells) (hB : Blk w g old T) (hi : (Try.prog.info? ty).map (·.size) = some cells.size)
    (hold : old.size = cells.size) (h1 : cells.all (·.oneCell') = true) (h : wpList Try.prog ops Q rest (a.put o.dst undef) (w.setRow g cells)) : wpList Try.prog ops Q (o :: rest) a w :=
  wpList_store_row hgd ty x y ho g cells hx hy T old hB hi hold h1 h
/-- The base that the document's sender has after an answer. -/
def rbase (xs : List W8) (n b : Nat) : Nat := if (ackN xs).1 = 0 ∧ b < (ackN xs).2 ∧ (ackN xs).2 ≤ n then (ackN xs).2 else b
set_option maxRecDepth 100000 in
set_option maxHeartbeats 4000000 in
theorem rhearm_c {w : World} {pL pH pT : Option Addr} {n cL nH cH nT cT b : Nat} {vb : Value} {xs : List W8} (hn : n ≤ 100000) (hb : b ≤ 100000) (hX : Bytes w vb xs) (hl : xs.length ≤ 90000) :
    Calls Try.prog 45 #[.agg (dsV (.slice pL n cL) (.slice pH nH cH) (.slice pT nT cT) b), vb] w fun e w' => e = .returned (.tuple #[.agg (dsV (.slice pL n cL) (.slice pH nH cH) (.slice pT nT cT) (rbase xs n b)), .int .i64 (ackN xs).1]) ∧ Below w.heap.size w w' := by
  unfold dsV
  obtain ⟨p, cap, hv, hq0⟩ := hX
  subst hv
  have hB : Bytes w (.slice p xs.length cap) xs := ⟨p, cap, rfl, hq0⟩
  clear hq0
  have hz : ∀ W : World, (zeroValue 44).run Try.prog W = .ok (.agg #[.slice none 0 0, .int .i64 0, .slice none 0 0, .slice none 0 0]) W := fun _ => rfl
  obtain ⟨w0, hw0⟩ : ∃ w0, w0 = (w.alloc (.cells #[.slice pL n cL, .int .i64 (b : Int), .slice pH nH cH, .slice pT nT cT] 44)).alloc (.cells #[.slice none 0 0, .int .i64 0, .slice none 0 0, .slice none 0 0] 44) := ⟨_, rfl⟩
  have HW0 := hid hw0
  have B0 := hid (show Below w.heap.size w w0 by rw [hw0]; exact ((Below.refl _ _).alloc (Nat.le_refl _) _).alloc (by simp) _)
  have K2 := hid (show Blk w0 w.heap.size #[.slice pL n cL, .int .i64 (b : Int), .slice pH nH cH, .slice pT nT cT] 44 by rw [hw0]; exact (Blk.new w _ _).alloc _)
  have K4 := hid (show Blk w0 (w.heap.size + 1) #[.slice none 0 0, .int .i64 0, .slice none 0 0, .slice none 0 0] 44 by rw [hw0]; have := Blk.new (w.alloc (.cells #[.slice pL n cL, .int .i64 (b : Int), .slice pH nH cH, .slice pT nT cT] 44)) #[.slice none 0 0, .int .i64 0, .slice none 0 0, .slice none 0 0] 44; simpa using this)
  clear hw0
  have CO := hid (ropen_c (hB.below B0.out) hl)
  unfold ansO at CO
  obtain ⟨r, hr⟩ : ∃ r, r = ackN xs := ⟨_, rfl⟩
  obtain ⟨rb, hrb⟩ : ∃ rb, rb = rbase xs n b := ⟨_, rfl⟩
  rw [← hr, ← hrb]
  unfold rbase at hrb
  rw [← hr] at hrb
  have HRB := hid hrb
  clear hrb
  unfold ackN at hr
  by_cases ho : opens xs
  · rw [if_pos ho] at hr
    simp only [if_pos ho] at CO
    obtain ⟨q, hq⟩ : ∃ q, q = xs.length - 4 := ⟨_, rfl⟩
    have h5 := ho.1
    obtain ⟨ad, rfl⟩ : ∃ ad, p = some ad := by
      rcases bytes_nil_or hB with ⟨c, e, e2⟩ | ⟨ad, c, e⟩
      · rw [e2] at h5; simp at h5
      · cases e; exact ⟨ad, rfl⟩
    have hcap := (hB.len_le (by omega)).2
    have hX := hB.take' q (by omega)
    rw [← hq] at CO hr
    obtain ⟨x, hx⟩ : ∃ x, x = xs.take q := ⟨_, rfl⟩
    have hxl : x.length = q := by rw [hx, List.length_take]; omega
    rw [← hx] at hX hr
    rw [hxl] at hr
    have hqc : q ≤ cap := by omega
    have hq1 : 1 ≤ q := by omega
    have hql : q ≤ 100000 := by omega
    obtain ⟨g, off, e, hc0⟩ : ∃ g off, (some ad : Option Addr) = some ⟨g, off, none⟩ ∧ w.cell? ⟨g, off, none⟩ = some (.int .u8 (ub (x.getD 0 0))) ∧ g < w.heap.size := by
      obtain ⟨p', c', e', hh⟩ := hX
      cases e'
      obtain ⟨g, off, e1, e2, _, _, e3⟩ := hh (by omega)
      exact ⟨g, off, e1, by have := e3 0 (by omega); simpa using this, e2⟩
    cases e
    obtain ⟨hc0, hgl⟩ := hc0
    have HC := hid hc0; have HX := hid hX; have HG := hid hgl; have HL := hid hxl
    have hqi0 : (0 : Int) < (q : Int) := by omega
    clear hc0 hX hx hB ho hcap h5 hgl hxl hq
    have D1 := hid (show Bytes w (.slice (some (cutAt ⟨g, off, none⟩ cap 1)) (q - 1) (cap - 1)) (x.drop 1) from by
      have hh := HX.out
      have hxl := HL.out
      rw [← hxl] at hh ⊢
      exact hh.drop 1 (by omega))
    obtain ⟨x0, hx0⟩ : ∃ x0, x0 = x.getD 0 0 := ⟨_, rfl⟩
    obtain ⟨y, hy⟩ : ∃ y, y = x.drop 1 := ⟨_, rfl⟩
    have hyl := hid (show y.length = q - 1 by rw [hy, List.length_drop, HL.out])
    rw [← hx0, ← hy] at hr
    rw [← hx0] at HC
    rw [← hy] at D1
    have HR := hid hr
    clear hx0 hy hr
    go_enter Try.func45, Try.ntmps45
    go_upto_region 1 with fail
    rw [← HW0.out]
    go_upto_region 4 with (go_at_call 58; refine CO.out.mono ?_; rintro e w1 ⟨rfl, hb1⟩; have B01 := hid hb1; clear hb1)
    have B1 := hid (B0.out.trans (B01.out.mono B0.out.size))
    have K21 := hid (K2.out.below B01.out)
    have K41 := hid (K4.out.below B01.out)
    have c0 : w1.cell? ⟨g, off, none⟩ = some (.int .u8 (ub x0)) := (B1.out.cell HG.out).trans HC.out
    have D1' := hid (D1.out.below B1.out)
    have hws := hid (show w.heap.size + 1 < w1.heap.size from K41.out.lt)
    have fin : ∀ g cs, w.heap.size ≤ g → Below w.heap.size w (w1.setRow g cs) := fun g cs hg => B1.out.trans ((Mod.setRow w1 g cs).below B1.out.size (fun k hk e => by omega))
    have FIN := hid fin
    clear fin
    by_cases hq5 : q = 5
    · subst hq5
      by_cases h65 : x0 = 65
      · have e65 : ub x0 = 65 := by rw [h65]; rfl
        rw [e65] at c0
        have HR' := hid (HR.out.trans (if_pos ⟨rfl, h65⟩))
        have D4 : Bytes w1 (.slice (some (cutAt ⟨g, off, none⟩ cap 1)) 4 (cap - 1)) y := D1'.out
        have CT := hid (rtake32_c D4 (by have := hyl.out; omega))
        clear D4
        have hy4 : 4 ≤ y.length := by have := hyl.out; omega
        simp only [if_pos hy4] at CT
        clear hy4
        obtain ⟨nn, hnn⟩ : ∃ nn, nn = un32 y := ⟨_, rfl⟩
        have hnl : nn < 4294967296 := by rw [hnn]; exact un32_lt y
        rw [← hnn] at CT HR'
        clear hnn
        go_upto_region 7 with (first
          | ((with_reducible refine at_op (.slice 29 (.tmp 31) (some (.const (.int .i64 1))) none none) rfl ?_); refine wpList_cut rfl (.tmp 31) (.const (.int .i64 1)) rfl (k := 1) rfl rfl rfl hq1 hqc ?_)
          | (go_at_call 59; refine CT.out.mono ?_; rintro e w2 ⟨⟨v2, rfl, O2⟩, hb2⟩; have B12 := hid hb2; clear O2 hb2))
        have K22 := hid (K21.out.below B12.out)
        have K42 := hid (K41.out.below B12.out)
        have B2 := hid (B1.out.trans (B12.out.mono B1.out.size))
        have c20 : w2.cell? ⟨w.heap.size, 0, none⟩ = some (.slice pL n cL) := K22.out.cellv rfl
        have c21 : w2.cell? ⟨w.heap.size, 1, none⟩ = some (.int .i64 (b : Int)) := K22.out.cellv rfl
        have f21 : w2.frozen? ⟨w.heap.size, 1, none⟩ = false := K22.out.frozen 1
        have hl2 : w.heap.size < w2.heap.size := K22.out.lt
        by_cases hbn : b < nn
        · have hbi : (b : Int) < (nn : Int) := by omega
          by_cases hnl2 : nn ≤ n
          · have hni : (nn : Int) ≤ (n : Int) := by omega
            have KS := hid (show Blk (w2.setCell ⟨w.heap.size, 1, none⟩ (.int .i64 (nn : Int))) w.heap.size #[.slice pL n cL, .int .i64 (nn : Int), .slice pH nH cH, .slice pT nT cT] 44 from K22.out.set 1 _)
            have KT := hid (show Blk (w2.setCell ⟨w.heap.size, 1, none⟩ (.int .i64 (nn : Int))) (w.heap.size + 1) #[.slice none 0 0, .int .i64 0, .slice none 0 0, .slice none 0 0] 44 from K42.out.other (by simp) _)
            go_wp2_with (first | ((with_reducible refine at_op (.load 44 (.tmp 2)) rfl ?_); refine wpList_load_blk rfl 44 (.tmp 2) rfl w.heap.size rfl (cs := #[.slice pL n cL, .int .i64 (nn : Int), .slice pH nH cH, .slice pT nT cT]) KS.out Try.underlying44 rfl (info44 _ _ _ _) ?_) | ((with_reducible refine at_op (.store 44 (.tmp 4) (.tmp 55)) rfl ?_); refine wpList_store_blk rfl 44 (.tmp 4) (.tmp 55) rfl (w.heap.size + 1) rfl rfl KT.out (info44 _ _ _ _) rfl (one4 rfl rfl rfl rfl) ?_))
            refine bodyPost_ret (results_cell2 rfl _ _ (w.heap.size + 1) _ _ rfl rfl (load_blk ((KT.out).setRow _) Try.underlying44 rfl (info44 _ _ _ _))) rfl ?_
            have e2 : rb = nn := by rw [HRB.out, HR'.out]; exact if_pos ⟨rfl, hbn, hnl2⟩
            rw [HR'.out, e2]
            exact ⟨rfl, (B2.out.trans ((Below.refl w.heap.size w2).setCell (by exact Nat.le_refl _) _)).trans ((Mod.setRow _ _ _).below (by have := B2.out.size; simp; omega) (fun k hk e => by omega))⟩
          · have hni : ¬ (nn : Int) ≤ (n : Int) := by omega
            go_wp2_with (first | ((with_reducible refine at_op (.load 44 (.tmp 2)) rfl ?_); refine wpList_load_blk rfl 44 (.tmp 2) rfl w.heap.size rfl (cs := #[.slice pL n cL, .int .i64 (b : Int), .slice pH nH cH, .slice pT nT cT]) K22.out Try.underlying44 rfl (info44 _ _ _ _) ?_) | ((with_reducible refine at_op (.store 44 (.tmp 4) (.tmp 55)) rfl ?_); refine wpList_store_blk rfl 44 (.tmp 4) (.tmp 55) rfl (w.heap.size + 1) rfl rfl K42.out (info44 _ _ _ _) rfl (one4 rfl rfl rfl rfl) ?_))
            refine bodyPost_ret (results_cell2 rfl _ _ (w.heap.size + 1) _ _ rfl rfl (load_blk ((K42.out).setRow _) Try.underlying44 rfl (info44 _ _ _ _))) rfl ?_
            have e2 : rb = b := by rw [HRB.out, HR'.out]; exact if_neg (fun h => hnl2 h.2.2)
            rw [HR'.out, e2]
            exact ⟨rfl, B2.out.trans ((Mod.setRow _ _ _).below B2.out.size (fun k hk e => by omega))⟩
        · have hbi : ¬ (b : Int) < (nn : Int) := by omega
          go_wp2_with (first | ((with_reducible refine at_op (.load 44 (.tmp 2)) rfl ?_); refine wpList_load_blk rfl 44 (.tmp 2) rfl w.heap.size rfl (cs := #[.slice pL n cL, .int .i64 (b : Int), .slice pH nH cH, .slice pT nT cT]) K22.out Try.underlying44 rfl (info44 _ _ _ _) ?_) | ((with_reducible refine at_op (.store 44 (.tmp 4) (.tmp 55)) rfl ?_); refine wpList_store_blk rfl 44 (.tmp 4) (.tmp 55) rfl (w.heap.size + 1) rfl rfl K42.out (info44 _ _ _ _) rfl (one4 rfl rfl rfl rfl) ?_))
          refine bodyPost_ret (results_cell2 rfl _ _ (w.heap.size + 1) _ _ rfl rfl (load_blk ((K42.out).setRow _) Try.underlying44 rfl (info44 _ _ _ _))) rfl ?_
          have e2 : rb = b := by rw [HRB.out, HR'.out]; exact if_neg (fun h => hbn h.2.1)
          rw [HR'.out, e2]
          exact ⟨rfl, B2.out.trans ((Mod.setRow _ _ _).below B2.out.size (fun k hk e => by omega))⟩
      · have e65 : (ub x0 != 65) = true := by
          have : ub x0 ≠ 65 := fun e => h65 (by
            apply BitVec.eq_of_toNat_eq
            have : (x0.toNat : Int) = 65 := e
            show x0.toNat = 65
            omega)
          simpa using this
        go_wp2_with (first | ((with_reducible refine at_op (.load 44 (.tmp 2)) rfl ?_); refine wpList_load_blk rfl 44 (.tmp 2) rfl w.heap.size rfl (cs := #[.slice pL n cL, .int .i64 (b : Int), .slice pH nH cH, .slice pT nT cT]) K21.out Try.underlying44 rfl (info44 _ _ _ _) ?_) | ((with_reducible refine at_op (.store 44 (.tmp 4) (.tmp 29)) rfl ?_); refine wpList_store_blk rfl 44 (.tmp 4) (.tmp 29) rfl (w.heap.size + 1) rfl rfl K41.out (info44 _ _ _ _) rfl (one4 rfl rfl rfl rfl) ?_))
        refine bodyPost_ret (results_cell2 rfl _ _ (w.heap.size + 1) _ _ rfl rfl (load_blk ((K41.out).setRow _) Try.underlying44 rfl (info44 _ _ _ _))) rfl ?_
        have e1 := HR.out.trans (if_neg (fun h => h65 h.2))
        have e2 : rb = b := by rw [HRB.out, e1]; exact if_neg (fun h => absurd h.1 (by decide))
        rw [e1, e2]
        exact ⟨rfl, FIN.out _ _ (by omega)⟩
    · have e5 : ((q : Int) != 5) = true := by
        have : (q : Int) ≠ 5 := by omega
        simpa using this
      go_wp2_with (first | ((with_reducible refine at_op (.load 44 (.tmp 2)) rfl ?_); refine wpList_load_blk rfl 44 (.tmp 2) rfl w.heap.size rfl (cs := #[.slice pL n cL, .int .i64 (b : Int), .slice pH nH cH, .slice pT nT cT]) K21.out Try.underlying44 rfl (info44 _ _ _ _) ?_) | ((with_reducible refine at_op (.store 44 (.tmp 4) (.tmp 29)) rfl ?_); refine wpList_store_blk rfl 44 (.tmp 4) (.tmp 29) rfl (w.heap.size + 1) rfl rfl K41.out (info44 _ _ _ _) rfl (one4 rfl rfl rfl rfl) ?_))
      refine bodyPost_ret (results_cell2 rfl _ _ (w.heap.size + 1) _ _ rfl rfl (load_blk ((K41.out).setRow _) Try.underlying44 rfl (info44 _ _ _ _))) rfl ?_
      have e1 := HR.out.trans (if_neg (fun h => hq5 h.1))
      have e2 : rb = b := by rw [HRB.out, e1]; exact if_neg (fun h => absurd h.1 (by decide))
      rw [e1, e2]
      exact ⟨rfl, FIN.out _ _ (by omega)⟩
  · rw [if_neg ho] at hr
    simp only [if_neg ho] at CO
    have HR := hid hr
    clear hB ho hl hr
    go_enter Try.func45, Try.ntmps45
    go_upto_region 1 with fail
    rw [← HW0.out]
    go_upto_region 3 with (go_at_call 58; refine CO.out.mono ?_; rintro e w1 ⟨rfl, hb1⟩; have B01 := hid hb1; clear hb1)
    have B1 := hid (B0.out.trans (B01.out.mono B0.out.size))
    have K21 := hid (K2.out.below B01.out)
    have K41 := hid (K4.out.below B01.out)
    go_wp2_with (first | ((with_reducible refine at_op (.load 44 (.tmp 2)) rfl ?_); refine wpList_load_blk rfl 44 (.tmp 2) rfl w.heap.size rfl (cs := #[.slice pL n cL, .int .i64 (b : Int), .slice pH nH cH, .slice pT nT cT]) K21.out Try.underlying44 rfl (info44 _ _ _ _) ?_) | ((with_reducible refine at_op (.store 44 (.tmp 4) (.tmp 18)) rfl ?_); refine wpList_store_blk rfl 44 (.tmp 4) (.tmp 18) rfl (w.heap.size + 1) rfl rfl K41.out (info44 _ _ _ _) rfl (one4 rfl rfl rfl rfl) ?_))
    refine bodyPost_ret (results_cell2 rfl _ _ (w.heap.size + 1) _ _ rfl rfl (load_blk ((K41.out).setRow _) Try.underlying44 rfl (info44 _ _ _ _))) rfl ?_
    have e2 : rb = b := by rw [HRB.out, HR.out]; exact if_neg (fun h => absurd h.1 (by decide))
    rw [HR.out, e2]
    exact ⟨rfl, B1.out.trans ((Mod.setRow _ _ _).below B1.out.size (fun k hk e => by omega))⟩
end Go.Proofs.Ytkehejkjifgieaa
