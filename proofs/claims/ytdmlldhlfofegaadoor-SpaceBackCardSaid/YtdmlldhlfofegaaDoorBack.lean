/- The walk of SpaceBack. -/
import Derived.Test.YtdmlldhlfofegaaDoorAny
import Derived.Test.YtdmlldhlfofegaaDoorRel
import Derived.BigQuiet
import Derived.Deep.RegionWith
namespace Go.Proofs.YtdmlldhlfofegaaDoor
open Go.RowKit

theorem and511 (n : Int) : ∃ N : Nat, N < 512 ∧ bits .and .i64 n 511 = (N : Int) := by
  refine ⟨(BitVec.ofInt 64 n &&& BitVec.ofInt 64 511).toNat, ?_, ?_⟩
  · rw [BitVec.toNat_and]; exact Nat.lt_of_le_of_lt Nat.and_le_right (by decide)
  · show IntKind.i64.wrap _ = _
    have h : (BitVec.ofInt 64 n &&& BitVec.ofInt 64 511).toNat ≤ 511 := by rw [BitVec.toNat_and]; exact Nat.le_trans Nat.and_le_right (by decide)
    rw [show IntKind.i64.bits = 64 from rfl]
    simp [IntKind.wrap, IntKind.bits, IntKind.signed] at *
    omega
set_option maxRecDepth 100000 in
set_option linter.unusedSimpArgs false in
set_option maxHeartbeats 8000000 in
theorem back_walk {w : World} (T : Tab w) (n : Int) (p : Option Addr) (len cap : Nat) (hl : len ≤ maxLen) (hs : Acts w p len) (bit : Int) : Calls Tryd.prog 7 #[.int .i64 n, .slice p len cap, .int .i64 bit] w fun e w' => e = .returned (.bool true) ∧ Below w.heap.size w w' := by
  have h0 := T.lt
  have HT := hid T
  have HS := hid hs
  have hl' : (len : Int) ≤ 9223372036854775807 := by simp only [maxLen] at hl; omega
  clear hs T hl
  go_enter Tryd.func7, Tryd.ntmps7
  by_cases hn : n < 16 ∨ 512 < n
  · go_wp2_with first
      | (go_at_call 9; refine (alive_c HT.out).mono ?_; rintro e w2 ⟨rfl, Lx⟩; have L2 := hid Lx; clear Lx)
      | (go_at_call 8; refine (new_no _ n hn).mono ?_; rintro e w' ⟨rfl, rfl⟩)
    go_ret
    exact ⟨rfl, L2.out⟩
  · obtain ⟨m, rfl⟩ : ∃ m : Nat, n = m := ⟨n.toNat, by omega⟩
    have hm1 : 16 ≤ m := by omega
    have hm2 : m ≤ 512 := by omega
    clear hn
    go_wp2_with (go_at_call 8; refine (new_yes _ m hm1 hm2).mono ?_; rintro e w1 ⟨b, hb, rfl, M1, L1⟩; have HM1 := hid M1; have HL1 := hid L1; clear M1 L1)
    have hb0 : b ≠ 0 := by omega
    go_loopg [9] len (fun g v9 wr => ∃ i : Nat, v9 = .int .i64 i ∧ g = len - i ∧ i ≤ len ∧ Hid (Sound wr b m) ∧ Hid (Below w.heap.size w wr))
    case atStart => exact ⟨0, rfl, rfl, by omega, hid ⟨labX 4, HM1.out, tight_lab (by omega), lab_lab⟩, HL1⟩
    case round =>
      obtain ⟨i, rfl, hg, hi, HSo, HL⟩ := hrel
      clear HM1 HL1
      have HTr := hid (HT.out.below HL.out h0)
      by_cases hil : i < len ∧ i < 60
      · obtain ⟨hi1, hi2⟩ := hil
        obtain ⟨sb, so, K, N, A, s, rfl, hsb, k0, k1, k2, hA, k3⟩ := HS.out i hi1
        have d0 : wr.cell? ⟨sb, so + i * 4, none⟩ = some (.int .i64 K) := (HL.out.cell hsb).trans k0
        have d1 : wr.cell? ⟨sb, so + i * 4 + 1, none⟩ = some (.int .i64 N) := (HL.out.cell hsb).trans k1
        have d2 : wr.cell? ⟨sb, so + i * 4 + 2, none⟩ = some (.int .u32 (A : Int)) := (HL.out.cell hsb).trans k2
        have hi1' : (i : Int) < len := by omega
        have hi2' : (i : Int) < 60 := by omega
        have hsr := Nat.lt_of_lt_of_le hsb HL.out.size
        clear k0 k1 k2 k3
        by_cases hK1 : K = 1
        · subst hK1
          go_wp2_with (go_at_call 12; refine (take_any HSo.out HTr.out hb0 hm2 N).mono ?_; rintro e w2 ⟨v2, rfl, S2, R2⟩; have HS2 := hid S2; have HL2 := hid (HL.out.trans (R2.below HL.out.size (fun c hc e => by omega))); have e0 : w2.cell? ⟨sb, so + i * 4, none⟩ = some (.int .i64 1) := (World.cell?_of_block (w := wr) (R2.block sb hsr (by omega))).trans d0; clear S2 R2)
          go_roundg (len - (i + 1))
          case measure => omega
          case rel => exact ⟨i + 1, by go_num, rfl, by omega, HS2, HL2⟩
        · by_cases hK2 : K = 2
          · subst hK2
            go_wp2_with (go_at_call 14; refine (give_any HSo.out hm2 A hA).mono ?_; rintro e w2 ⟨v2, rfl, S2, R2⟩; have HS2 := hid S2; have HL2 := hid (HL.out.trans (R2.below HL.out.size (fun c hc e => by omega))); clear S2 R2)
            go_roundg (len - (i + 1))
            case measure => omega
            case rel => exact ⟨i + 1, by go_num, rfl, by omega, HS2, HL2⟩
          · go_wp2
            go_roundg (len - (i + 1))
            case measure => omega
            case rel => exact ⟨i + 1, by go_num, rfl, by omega, HSo, HL⟩
      · have hex : (¬ (i : Int) < len) ∨ ((i : Int) < len ∧ ¬ (i : Int) < 60) := by omega
        obtain ⟨X, hM, hG, hLB⟩ := HSo.out
        have HM := hid hM; have HG := hid hG; have HLB := hid hLB
        have hbr := Fn.lt HM.out
        clear hM hG hLB HSo hg hil hi
        rcases hex with h60 | ⟨h61, h60⟩
        all_goals
          go_upto_region 13 with first
            | (go_at_call 16; refine (bytes_c HM.out).mono ?_; rintro e w2 ⟨rfl, F2, Lx⟩; have HF2 := hid F2; have HL2 := hid Lx; clear F2 Lx)
            | (go_at_call 26; refine (load_walk (bts_of_fn HF2.out) HF2.out.lt hm1 hm2).mono ?_; rintro e w3 ⟨Lx, hy, -⟩; obtain ⟨c, hc, rfl, hMc⟩ := hy (ok_bt HG.out HLB.out); have HL3 := hid Lx; have HMc := hid hMc; clear Lx hy hMc)
          have HF3 := hid (HF2.out.below HL3.out HF2.out.lt)
          have hg3 := HF3.out.lt
          have hgw : wr.heap.size < w2.heap.size := HF2.out.lt
          have HS3 := hid (strOf_congr (n := 64) (bt_bt X))
          have hrefl : ∀ w : World, Below w.heap.size w w := fun w => Below.refl _ _
          refine region_rel (n := 137) (B := fun w' => Below w3.heap.size w3 w') (E := fun w w' => Below w.heap.size w w') (φ := (fun (k : Nat) (v : Value) (w : World) => if k = 13 then ∃ g : Nat, v = .slice (some ⟨g, 0, none⟩) 64 64 ∧ g < w.heap.size ∧ Bts w g 0 64 (bt (wordsOf (bt X))) else v = ([.int .i64 0, .bool false, .bool false, .pointer (some ⟨c, 0, none⟩), .bool false, .bool false, .bool false, .slice (some ⟨wr.heap.size, 0, none⟩) 64 64, .int .i64 64, .bool false, .bool false, .bool false, .pointer (some ⟨c, 0, none⟩), undef, .string (strOf (bt X) 64), .slice (some ⟨wr.heap.size, 0, none⟩) 64 64, .string (strOf (bt X) 64), .bool false, .bool false] : List Value).getD k undef)) (by kernel_rfl) (by kernel_rfl) (by kernel_rfl) (by kernel_rfl) ?mono hrefl ((Below.refl _ _).drew) ?hop ?hend
          case mono =>
            intro j v w w' h hE
            split at h
            · rename_i hj
              subst hj
              obtain ⟨g, h1, h2, h3⟩ := h
              exact ⟨g, h1, Nat.lt_of_lt_of_le h2 hE.size, h3.below h2 hE⟩
            · rename_i hj
              rw [if_neg hj]
              exact h
          case hop =>
            refine And.intro ?_ ?_
            · intro V ρ w hB hc hf hd hs
              have s12 : ρ (.tmp 12) = .int .i64 0 := hs 12 (by kernel_rfl)
              clear hd hs
              rw [BigFrame.run_move (.tmp 12) rfl]
              exact ⟨s12, hB, hrefl w⟩
            refine And.intro ?_ ?_
            · intro V ρ w hB hc hf hd hs
              have s76 : ρ (.tmp 76) = .int .i64 0 := (hd 0 (by kernel_rfl) 76 (by kernel_rfl)).2.trans (hd 0 (by kernel_rfl) 76 (by kernel_rfl)).1
              clear hd hs
              refine outcome_value (v := .bool false) ?_ ⟨rfl, hB, hrefl w⟩
              simp [go_sem, hc, hf, s76]
            refine And.intro ?_ ?_
            · intro V ρ w hB hc hf hd hs
              have s77 : ρ (.tmp 77) = .bool false := (hd 1 (by kernel_rfl) 77 (by kernel_rfl)).2.trans (hd 1 (by kernel_rfl) 77 (by kernel_rfl)).1
              clear hd hs
              rw [BigFrame.run_move (.tmp 77) rfl]
              exact ⟨s77, hB, hrefl w⟩
            refine And.intro ?_ ?_
            · intro V ρ w hB hc hf hd hs
              have s11 : ρ (.tmp 11) = .pointer (some ⟨c, 0, none⟩) := hs 11 (by kernel_rfl)
              refine ⟨false, (hd 2 (by kernel_rfl) 78 (by kernel_rfl)).1, fun _ => ?_, fun h => absurd rfl h⟩
              clear hd hs
              rw [BigFrame.run_move (.tmp 11) rfl]
              exact ⟨s11, hB, hrefl w⟩
            refine And.intro ?_ ?_
            · intro V ρ w hB hc hf hd hs
              have s79 : ρ (.tmp 79) = .pointer (some ⟨c, 0, none⟩) := (hd 3 (by kernel_rfl) 79 (by kernel_rfl)).2.trans (hd 3 (by kernel_rfl) 79 (by kernel_rfl)).1
              refine ⟨false, (hd 2 (by kernel_rfl) 78 (by kernel_rfl)).1, fun _ => ?_, fun h => absurd rfl h⟩
              clear hd hs
              refine outcome_value (v := .bool false) ?_ ⟨rfl, hB, hrefl w⟩
              simp [go_sem, hc, hf, s79]
            refine And.intro ?_ ?_
            · intro V ρ w hB hc hf hd hs
              have s78 : ρ (.tmp 78) = .bool false := (hd 2 (by kernel_rfl) 78 (by kernel_rfl)).2.trans (hd 2 (by kernel_rfl) 78 (by kernel_rfl)).1
              have s80 : ρ (.tmp 80) = .bool false := (hd 4 (by kernel_rfl) 80 (by kernel_rfl)).2.trans (hd 4 (by kernel_rfl) 80 (by kernel_rfl)).1
              clear hd hs
              refine outcome_value (v := .bool false) ?_ ⟨rfl, hB, hrefl w⟩
              simp [go_sem, hc, hf, s78, s80]
            refine And.intro ?_ ?_
            · intro V ρ w hB hc hf hd hs
              have s81 : ρ (.tmp 81) = .bool false := (hd 5 (by kernel_rfl) 81 (by kernel_rfl)).2.trans (hd 5 (by kernel_rfl) 81 (by kernel_rfl)).1
              clear hd hs
              rw [BigFrame.run_move (.tmp 81) rfl]
              exact ⟨s81, hB, hrefl w⟩
            refine And.intro ?_ ?_
            · intro V ρ w hB hc hf hd hs
              have s10 : ρ (.tmp 10) = .slice (some ⟨wr.heap.size, 0, none⟩) 64 64 := hs 10 (by kernel_rfl)
              refine ⟨false, (hd 6 (by kernel_rfl) 82 (by kernel_rfl)).1, fun _ => ?_, fun h => absurd rfl h⟩
              clear hd hs
              rw [BigFrame.run_move (.tmp 10) rfl]
              exact ⟨s10, hB, hrefl w⟩
            refine And.intro ?_ ?_
            · intro V ρ w hB hc hf hd hs
              have s83 : ρ (.tmp 83) = .slice (some ⟨wr.heap.size, 0, none⟩) 64 64 := (hd 7 (by kernel_rfl) 83 (by kernel_rfl)).2.trans (hd 7 (by kernel_rfl) 83 (by kernel_rfl)).1
              refine ⟨false, (hd 6 (by kernel_rfl) 82 (by kernel_rfl)).1, fun _ => ?_, fun h => absurd rfl h⟩
              clear hd hs
              refine outcome_value (v := .int .i64 64) ?_ ⟨rfl, hB, hrefl w⟩
              simp [go_sem, hc, hf, s83]
            refine And.intro ?_ ?_
            · intro V ρ w hB hc hf hd hs
              have s84 : ρ (.tmp 84) = .int .i64 64 := (hd 8 (by kernel_rfl) 84 (by kernel_rfl)).2.trans (hd 8 (by kernel_rfl) 84 (by kernel_rfl)).1
              refine ⟨false, (hd 6 (by kernel_rfl) 82 (by kernel_rfl)).1, fun _ => ?_, fun h => absurd rfl h⟩
              clear hd hs
              refine outcome_value (v := .bool false) ?_ ⟨rfl, hB, hrefl w⟩
              simp [go_sem, hc, hf, s84]
            refine And.intro ?_ ?_
            · intro V ρ w hB hc hf hd hs
              have s82 : ρ (.tmp 82) = .bool false := (hd 6 (by kernel_rfl) 82 (by kernel_rfl)).2.trans (hd 6 (by kernel_rfl) 82 (by kernel_rfl)).1
              have s85 : ρ (.tmp 85) = .bool false := (hd 9 (by kernel_rfl) 85 (by kernel_rfl)).2.trans (hd 9 (by kernel_rfl) 85 (by kernel_rfl)).1
              clear hd hs
              refine outcome_value (v := .bool false) ?_ ⟨rfl, hB, hrefl w⟩
              simp [go_sem, hc, hf, s82, s85]
            refine And.intro ?_ ?_
            · intro V ρ w hB hc hf hd hs
              have s86 : ρ (.tmp 86) = .bool false := (hd 10 (by kernel_rfl) 86 (by kernel_rfl)).2.trans (hd 10 (by kernel_rfl) 86 (by kernel_rfl)).1
              clear hd hs
              rw [BigFrame.run_move (.tmp 86) rfl]
              exact ⟨s86, hB, hrefl w⟩
            refine And.intro ?_ ?_
            · intro V ρ w hB hc hf hd hs
              have s11 : ρ (.tmp 11) = .pointer (some ⟨c, 0, none⟩) := hs 11 (by kernel_rfl)
              refine ⟨false, (hd 11 (by kernel_rfl) 87 (by kernel_rfl)).1, fun _ => ?_, fun h => absurd rfl h⟩
              clear hd hs
              rw [BigFrame.run_move (.tmp 11) rfl]
              exact ⟨s11, hB, hrefl w⟩
            refine And.intro ?_ ?_
            · intro V ρ w hB hc hf hd hs
              have s88 : ρ (.tmp 88) = .pointer (some ⟨c, 0, none⟩) := (hd 12 (by kernel_rfl) 88 (by kernel_rfl)).2.trans (hd 12 (by kernel_rfl) 88 (by kernel_rfl)).1
              refine ⟨false, (hd 11 (by kernel_rfl) 87 (by kernel_rfl)).1, fun _ => ?_, fun h => absurd rfl h⟩
              clear hd hs
              refine outcome_enter (w := w) (f := 16) (args := #[.pointer (some ⟨c, 0, none⟩)]) (by simp [go_sem, hc, hf, s88]) ?_
              refine (bytes_c (HMc.out.below hB HMc.out.lt)).mono ?_
              rintro e w' ⟨rfl, F, Lx⟩
              exact ⟨_, rfl, Eq.mpr (if_pos rfl) ⟨_, rfl, F.lt, bts_of_fn F⟩, hB.trans (Lx.mono hB.size), Lx⟩
            refine And.intro ?_ ?_
            · intro V ρ w hB hc hf hd hs
              obtain ⟨f89, s89⟩ := hd 13 (by kernel_rfl) 89 (by kernel_rfl)
              refine ⟨false, (hd 11 (by kernel_rfl) 87 (by kernel_rfl)).1, fun _ => ?_, fun h => absurd rfl h⟩
              clear hd hs
              obtain ⟨g, hv, hg, hbt⟩ := Eq.mp (if_pos rfl) f89
              rw [hv] at s89
              exact outcome_value (v := .string (strOf (bt X) 64)) (run_conv rfl s89 ((conv_bts hbt).trans (by rw [HS3.out]))) ⟨rfl, hB, hrefl w⟩
            refine And.intro ?_ ?_
            · intro V ρ w hB hc hf hd hs
              have s10 : ρ (.tmp 10) = .slice (some ⟨wr.heap.size, 0, none⟩) 64 64 := hs 10 (by kernel_rfl)
              refine ⟨false, (hd 11 (by kernel_rfl) 87 (by kernel_rfl)).1, fun _ => ?_, fun h => absurd rfl h⟩
              clear hd hs
              rw [BigFrame.run_move (.tmp 10) rfl]
              exact ⟨s10, hB, hrefl w⟩
            refine And.intro ?_ ?_
            · intro V ρ w hB hc hf hd hs
              have s91 : ρ (.tmp 91) = .slice (some ⟨wr.heap.size, 0, none⟩) 64 64 := (hd 15 (by kernel_rfl) 91 (by kernel_rfl)).2.trans (hd 15 (by kernel_rfl) 91 (by kernel_rfl)).1
              refine ⟨false, (hd 11 (by kernel_rfl) 87 (by kernel_rfl)).1, fun _ => ?_, fun h => absurd rfl h⟩
              clear hd hs
              exact outcome_value (run_conv rfl s91 (conv_bts (bts_of_fn (HF3.out.below hB hg3)))) ⟨rfl, hB, hrefl w⟩
            refine And.intro ?_ ?_
            · intro V ρ w hB hc hf hd hs
              have s90 : ρ (.tmp 90) = .string (strOf (bt X) 64) := (hd 14 (by kernel_rfl) 90 (by kernel_rfl)).2.trans (hd 14 (by kernel_rfl) 90 (by kernel_rfl)).1
              have s92 : ρ (.tmp 92) = .string (strOf (bt X) 64) := (hd 16 (by kernel_rfl) 92 (by kernel_rfl)).2.trans (hd 16 (by kernel_rfl) 92 (by kernel_rfl)).1
              refine ⟨false, (hd 11 (by kernel_rfl) 87 (by kernel_rfl)).1, fun _ => ?_, fun h => absurd rfl h⟩
              clear hd hs
              refine outcome_value (v := .bool false) ?_ ⟨rfl, hB, hrefl w⟩
              simp [go_sem, hc, hf, s90, s92]
            refine And.intro ?_ ?_
            · intro V ρ w hB hc hf hd hs
              have s87 : ρ (.tmp 87) = .bool false := (hd 11 (by kernel_rfl) 87 (by kernel_rfl)).2.trans (hd 11 (by kernel_rfl) 87 (by kernel_rfl)).1
              have s93 : ρ (.tmp 93) = .bool false := (hd 17 (by kernel_rfl) 93 (by kernel_rfl)).2.trans (hd 17 (by kernel_rfl) 93 (by kernel_rfl)).1
              clear hd hs
              refine outcome_value (v := .bool false) ?_ ⟨rfl, hB, hrefl w⟩
              simp [go_sem, hc, hf, s87, s93]
            exact trivial
          case hend =>
            intro V w5 hB5 hV
            have v18 : V 18 = .bool false := hV 18 (by decide)
            simp only [lexF, Act.put, List.setIfInBounds_toArray, List.set_cons_zero, List.set_cons_succ, v18]
            clear hV
            obtain ⟨N, hN, hand⟩ := and511 bit
            have HF5 := hid (HF3.out.below hB5 hg3)
            have L5 := hid (show Below wr.heap.size wr w5 from (HL2.out.trans (HL3.out.mono HL2.out.size)).trans (hB5.mono (by have := HL2.out.size; have := HL3.out.size; omega)))
            have c0 : w5.cell? ⟨wr.heap.size, N / 8, none⟩ = some (.int .u8 (ub (bt X (N / 8)))) := HF5.out.cell (by omega)
            have f0 : w5.frozen? ⟨wr.heap.size, N / 8, none⟩ = false := HF5.out.frozen _
            have n0 : (0 : Int) ≤ (N : Int) := Int.natCast_nonneg _
            have n1 : (N : Int) < 512 := by omega
            clear hrefl hgw HF3 hg3 HF2
            go_upto_region 17 with fail
            rw [xor_byte _ _ (by omega)]
            have HF6 := hid (show Fn (w5.setCell ⟨wr.heap.size, N / 8, none⟩ (.int .u8 (ub (bt X (N / 8) ^^^ 1#8 <<< (N % 8))))) wr.heap.size 5 64 (fun j => .int .u8 (ub (turn (bt X) N j))) from by
              refine (HF5.out.set (N / 8) _).congr (fun j hj => ?_)
              unfold set1 turn
              by_cases e : j = N / 8
              · subst e; rw [if_pos rfl, if_pos rfl]
              · rw [if_neg e, if_neg e])
            have L6 := hid (show Below wr.heap.size wr (w5.setCell ⟨wr.heap.size, N / 8, none⟩ (.int .u8 (ub (bt X (N / 8) ^^^ 1#8 <<< (N % 8))))) from L5.out.trans (((Mod.refl (fun c => c = wr.heap.size) w5).setCell (p := ⟨wr.heap.size, N / 8, none⟩) (fun _ => rfl) _).below L5.out.size (fun c hc e => by omega)))
            generalize w5.setCell ⟨wr.heap.size, N / 8, none⟩ (.int .u8 (ub (bt X (N / 8) ^^^ 1#8 <<< (N % 8)))) = w6 at HF6 L6 ⊢
            have T6 := hid (HT.out.below (HL.out.trans (L6.out.mono HL.out.size)) h0)
            have hT6 := T6.out.lt
            clear c0 f0 HF5 hand
            by_cases hok : 4 ≤ N ∧ N < m
            · have HOK := hid (ok_turn HG.out HLB.out hok.1 hok.2)
              have h4 : (4 : Int) ≤ (N : Int) := by omega
              have hNm : (N : Int) < (m : Int) := by omega
              clear hok
              go_wp2_with first
                | (go_at_call 9; refine (alive_c T7.out).mono ?_; rintro e w8 ⟨rfl, Lx⟩; have L8 := hid (L7.out.trans (Lx.mono (by have := L7.out.size; omega))); clear Lx)
                | (go_at_call 26; refine (load_walk (bts_of_fn HF6.out) HF6.out.lt hm1 hm2).mono ?_; rintro e w7 ⟨Lx, hy, -⟩; obtain ⟨c7, hc7, rfl, -⟩ := hy HOK.out; have T7 := hid (T6.out.below Lx hT6); have L7 := hid (show Below w.heap.size w w7 from (HL.out.trans (L6.out.mono HL.out.size)).trans (Lx.mono (by have := HL.out.size; have := L6.out.size; omega))); clear Lx hy)
              go_ret
              exact ⟨rfl, L8.out⟩
            · have HNO := hid (no_turn HG.out HLB.out hN (by omega))
              have hcase : N < 4 ∨ (4 ≤ N ∧ m ≤ N) := by omega
              rcases hcase with h4 | ⟨h4, hmN⟩
              · have h4' : ¬ (4 : Int) ≤ (N : Int) := by omega
                clear hok
                go_wp2_with first
                  | (go_at_call 9; refine (alive_c T7.out).mono ?_; rintro e w8 ⟨rfl, Lx⟩; have L8 := hid (L7.out.trans (Lx.mono (by have := L7.out.size; omega))); clear Lx)
                  | (go_at_call 26; refine (load_walk (bts_of_fn HF6.out) HF6.out.lt hm1 hm2).mono ?_; rintro e w7 ⟨Lx, -, hy⟩; obtain rfl := hy HNO.out; have T7 := hid (T6.out.below Lx hT6); have L7 := hid (show Below w.heap.size w w7 from (HL.out.trans (L6.out.mono HL.out.size)).trans (Lx.mono (by have := HL.out.size; have := L6.out.size; omega))); clear Lx hy)
                go_ret
                exact ⟨rfl, L8.out⟩
              · have h4' : (4 : Int) ≤ (N : Int) := by omega
                have hNm : ¬ (N : Int) < (m : Int) := by omega
                clear hok
                go_wp2_with first
                  | (go_at_call 9; refine (alive_c T7.out).mono ?_; rintro e w8 ⟨rfl, Lx⟩; have L8 := hid (L7.out.trans (Lx.mono (by have := L7.out.size; omega))); clear Lx)
                  | (go_at_call 26; refine (load_walk (bts_of_fn HF6.out) HF6.out.lt hm1 hm2).mono ?_; rintro e w7 ⟨Lx, -, hy⟩; obtain rfl := hy HNO.out; have T7 := hid (T6.out.below Lx hT6); have L7 := hid (show Below w.heap.size w w7 from (HL.out.trans (L6.out.mono HL.out.size)).trans (Lx.mono (by have := HL.out.size; have := L6.out.size; omega))); clear Lx hy)
                go_ret
                exact ⟨ret_bool (a := !decide (N < m)) (by rw [decide_eq_false (by omega)]; rfl), L8.out⟩
end Go.Proofs.YtdmlldhlfofegaaDoor
