/- The walk of SpaceTaken. -/
import Derived.Test.YtdmlldhlfofegaaDoorActs
import Derived.BigQuiet
import Derived.Deep.RegionWith
namespace Go.Proofs.YtdmlldhlfofegaaDoor
open Go.RowKit

theorem below_drewN {B : Nat} {a w : World} (h : Below B a w) (n : Nat) : Below B a (w.drewN n) := ⟨h.os, h.tape, h.output, h.size, h.block⟩
set_option maxRecDepth 100000 in
set_option maxHeartbeats 8000000 in
theorem taken_walk {w : World} (T : Tab w) (n : Int) (p : Option Addr) (len cap : Nat) (hl : len ≤ maxLen) (hs : Acts w p len) : Calls Tryd.prog 3 #[.int .i64 n, .slice p len cap] w fun e w' => e = .returned (.bool true) ∧ Below w.heap.size w w' := by
  have h0 := T.lt
  have HT := hid T
  have HS := hid hs
  have hl' : (len : Int) ≤ 9223372036854775807 := by simp only [maxLen] at hl; omega
  clear hs T hl
  go_enter Tryd.func3, Tryd.ntmps3
  by_cases hn : n < 16 ∨ 512 < n
  · go_wp2_with first
      | (go_at_call 9; refine (alive_c HT.out).mono ?_; rintro e w2 ⟨rfl, Lx⟩; have L2 := hid Lx; clear Lx)
      | (go_at_call 8; refine (new_no _ n hn).mono ?_; rintro e w' ⟨rfl, rfl⟩)
    go_ret
    exact ⟨rfl, L2.out⟩
  · obtain ⟨m, rfl⟩ : ∃ m : Nat, n = m := ⟨n.toNat, by omega⟩
    have hm1 : 16 ≤ m := by omega
    have hm2 : m ≤ 512 := by omega
    clear hn
    go_wp2_with (go_at_call 8; refine (new_yes _ m hm1 hm2).mono ?_; rintro e w1 ⟨b, hb, rfl, M1, L1⟩; have HM1 := hid M1; have HL1 := hid L1; clear M1 L1)
    have hb0 : b ≠ 0 := by omega
    go_loopg [7] len (fun g v7 wr => ∃ i : Nat, v7 = .int .i64 i ∧ g = len - i ∧ i ≤ len ∧ ∃ X, Hid (MapAt wr b m X) ∧ Hid (Tight m X) ∧ Hid (Lab X) ∧ Hid (Below w.heap.size w wr))
    case atStart => exact ⟨0, rfl, rfl, by omega, labX 4, HM1, hid (tight_lab (by omega)), hid lab_lab, HL1⟩
    case round =>
      obtain ⟨i, rfl, hg, hi, X, HM, HG, HLB, HL⟩ := hrel
      clear HM1 HL1
      have HTr := hid (HT.out.below HL.out h0)
      by_cases hil : i < len ∧ i < 60
      · obtain ⟨hi1, hi2⟩ := hil
        obtain ⟨sb, so, K, N, A, s, rfl, hsb, k0, k1, k2, hA, k3⟩ := HS.out i hi1
        have d0 : wr.cell? ⟨sb, so + i * 4, none⟩ = some (.int .i64 K) := (HL.out.cell hsb).trans k0
        have d1 : wr.cell? ⟨sb, so + i * 4 + 1, none⟩ = some (.int .i64 N) := (HL.out.cell hsb).trans k1
        have hi1' : (i : Int) < len := by omega
        have hi2' : (i : Int) < 60 := by omega
        clear k0 k1 k2 k3
        obtain ⟨fr, hfr⟩ : ∃ fr : Int, fr = (m : Int) - (cnt (used X) m : Nat) := ⟨_, rfl⟩
        have FC := hid (fun w' (M : MapAt w' b m X) => hfr ▸ free_c M hm2 HG.out)
        have hcl := cnt_le (used X) m
        have HFR := hid hfr
        have fr0 : 0 ≤ fr := by omega
        have fr1 : fr ≤ 512 := by omega
        clear hfr hcl
        by_cases harg : N < 0 ∨ 8 < N
        · go_wp2_with first
            | (go_at_call 12; refine (take_arg _ _ _ harg).mono ?_; rintro e w' ⟨rfl, rfl⟩)
            | (go_at_call 11; refine (FC.out _ HM2.out).mono ?_; rintro e w' ⟨rfl, rfl⟩)
            | (go_at_call 10; refine (copy_c HM.out).mono ?_; rintro e w2 ⟨c, hc, rfl, M2, Lx⟩; have HM2 := hid (HM.out.below Lx (Fn.lt HM.out)); have HL2 := hid (HL.out.trans (Lx.mono HL.out.size)); have e1 : w2.cell? ⟨sb, so + i * 4 + 1, none⟩ = some (.int .i64 N) := (Lx.cell (Nat.lt_of_lt_of_le hsb HL.out.size)).trans d1; clear Lx M2)
          go_roundg (len - (i + 1))
          case measure => omega
          case rel => exact ⟨i + 1, by go_num, rfl, by omega, X, HM2, HG, HLB, HL2⟩
        · obtain ⟨k, rfl⟩ : ∃ k : Nat, N = k := ⟨N.toNat, by omega⟩
          have hk8 : k ≤ 8 := by omega
          have hfl := frees_len (used X) m
          by_cases hful : (frees (used X) m).length < k
          · clear harg hfl
            go_wp2_with first
              | (go_at_call 12; refine (take_full HM2.out hm2 HG.out _ hk8 hful).mono ?_; rintro e w' ⟨rfl, rfl⟩)
              | (go_at_call 11; refine (FC.out _ HM2.out).mono ?_; rintro e w' ⟨rfl, rfl⟩)
              | (go_at_call 10; refine (copy_c HM.out).mono ?_; rintro e w2 ⟨c, hc, rfl, M2, Lx⟩; have HM2 := hid (HM.out.below Lx (Fn.lt HM.out)); have HL2 := hid (HL.out.trans (Lx.mono HL.out.size)); have e1 : w2.cell? ⟨sb, so + i * 4 + 1, none⟩ = some (.int .i64 (k : Int)) := (Lx.cell (Nat.lt_of_lt_of_le hsb HL.out.size)).trans d1; clear Lx M2)
            go_roundg (len - (i + 1))
            case measure => omega
            case rel => exact ⟨i + 1, by go_num, rfl, by omega, X, HM2, HG, HLB, HL2⟩
          · clear harg
            go_upto_region 10 with first
              | (go_at_call 12; refine (take_yes HM2.out TB2.out hb0 hm2 HG.out _ hk8 (by omega)).mono ?_; rintro e w3 ⟨vv, pp, X', rfl, hE, hpn, hX', M3, O3, R3⟩; have HE := hid hE; have HPN := hid hpn; have HX' := hid hX'; have HM3 := hid M3; have HO3 := hid O3; have HR3 := hid R3; clear hE hpn hX' M3 O3 R3)
              | (go_at_call 11; refine (FC.out _ HM2.out).mono ?_; rintro e w' ⟨rfl, rfl⟩)
              | (go_at_call 10; refine (copy_c HM.out).mono ?_; rintro e w2 ⟨c, hc, rfl, M2, Lx⟩; have HM2 := hid (HM.out.below Lx (Fn.lt HM.out)); have HC2 := hid M2; have HL2 := hid (HL.out.trans (Lx.mono HL.out.size)); have TB2 := hid (HT.out.below HL2.out h0); have hbc := hid (Nat.lt_of_lt_of_le (Fn.lt HM.out) hc); have e1 : w2.cell? ⟨sb, so + i * 4 + 1, none⟩ = some (.int .i64 (k : Int)) := (Lx.cell (Nat.lt_of_lt_of_le hsb HL.out.size)).trans d1; have e0 : w2.cell? ⟨sb, so + i * 4, none⟩ = some (.int .i64 K) := (Lx.cell (Nat.lt_of_lt_of_le hsb HL.out.size)).trans d0; clear Lx M2)
            have hbw2 := HL2.out.size
            have hsb2 : sb < w2.heap.size := Nat.lt_of_lt_of_le hsb hbw2
            have HL3 := hid (show Below w.heap.size w w3 from HL2.out.trans (HR3.out.below hbw2 (fun c' hc' e => by omega)))
            have HC3 := hid (show MapAt w3 c m X from Fn.mod HC2.out HR3.out (by have := hbc.out; omega))
            have s0 : w3.cell? ⟨sb, so + i * 4, none⟩ = some (.int .i64 K) := (World.cell?_of_block (w := w2) (HR3.out.block sb hsb2 (by omega))).trans e0
            have s1 : w3.cell? ⟨sb, so + i * 4 + 1, none⟩ = some (.int .i64 (k : Int)) := (World.cell?_of_block (w := w2) (HR3.out.block sb hsb2 (by omega))).trans e1
            obtain ⟨p5, c5, rfl, hrow⟩ := own_row HO3.out
            have hlen : (frees (used X) pp).length = k := HE.out.1
            have hcnt := cnt_taken HPN.out HX'.out
            have HG' := hid (tight_take HG.out HPN.out HX'.out)
            have HLB' := hid (lab_take HLB.out HX'.out)
            have hfr' := HFR.out
            have hcl := cnt_le (used X') m
            have FC' := hid (fun w' (M : MapAt w' b m X') => (show (m : Int) - (cnt (used X') m : Nat) = fr - k by omega) ▸ free_c M hm2 HG'.out)
            have HROW := hid hrow
            have HLEN := hid hlen
            have fr2 : (k : Int) ≤ fr := by omega
            have fr3 : IntKind.i64.wrap (fr - (k : Int)) = fr - (k : Int) := by simp [IntKind.wrap, IntKind.bits, IntKind.signed]; omega
            clear hrow hlen hcnt hfr' hcl d0 d1 e0 e1 hfl hful
            go_wp2_with (go_at_call 11; refine (FC'.out _ HM3.out).mono ?_; rintro e w' ⟨rfl, rfl⟩)
            clear s1 fr0 fr1 fr2 fr3 FC FC' HFR
            obtain ⟨l, hl⟩ : ∃ l, l = frees (used X) pp := ⟨_, rfl⟩
            have HM_ := hid (show ∀ x, x ∈ l → x < m ∧ used X x = false ∧ used X' x = true ∧ 4 ≤ x from fun x hx => by
              rw [hl] at hx
              obtain ⟨h1, h2⟩ := mem_frees.1 hx
              exact ⟨by have := HPN.out; omega, h2, by rw [HX'.out, decide_eq_true h1, Bool.or_true], lab_four HLB.out h2⟩)
            have HS_ := hid (show ∀ i j x y, i < j → l[i]? = some x → l[j]? = some y → x < y from fun i j x y hij hx hy => by rw [hl] at hx hy; exact frees_lt hij hx hy)
            rw [← hl] at HO3 HROW HLEN
            clear hl
            obtain ⟨wq, rfl⟩ : ∃ wq, wq = w3 := ⟨w3, rfl⟩
            go_loopg [12, 13] k (fun g v12 _ wr => ∃ j : Nat, v12 = .int .i64 j ∧ g = k - j ∧ j ≤ k ∧ Hid (Below wq.heap.size wq wr))
            case atStart => exact ⟨0, rfl, rfl, by omega, hid (Below.refl _ _)⟩
            case round =>
              obtain ⟨j, rfl, hgj, hj, LJ⟩ := hrel
              by_cases hjk : j < k
              · obtain ⟨x, hx⟩ : ∃ x, l[j]? = some x := ⟨_, List.getElem?_eq_getElem (by have := HLEN.out; omega)⟩
                obtain ⟨x1, x2, x3, x4⟩ := HM_.out x (List.mem_of_getElem? hx)
                obtain ⟨gg, rfl, hkc, hgg, hgw, hcx⟩ := HROW.out j _ (u32v_get hx)
                have cx : wr.cell? ⟨gg, j, none⟩ = some (.int .u32 (x : Int)) := (LJ.out.cell hgw).trans hcx
                have cx' : ∀ nq, (wr.drewN nq).cell? ⟨gg, j, none⟩ = some (.int .u32 (x : Int)) := fun _ => cx
                have HCr := hid (show MapAt wr c m X from (HC3.out.below LJ.out HC3.out.lt))
                have HMr := hid (show MapAt wr b m X' from (HM3.out.below LJ.out HM3.out.lt))
                have CU := hid (fun nq => show Calls Tryd.prog 13 #[.pointer (some ⟨c, 0, none⟩), .int .i64 (x : Int)] (wr.drewN nq) (fun e w' => e = .returned (.bool false) ∧ w' = wr.drewN nq) from (used_in (show MapAt (wr.drewN nq) c m X from HCr.out) x x1 hm2).mono fun e w' h => ⟨by rw [h.1, x2], h.2.symm⟩)
                have CM := hid (fun nq => show Calls Tryd.prog 13 #[.pointer (some ⟨b, 0, none⟩), .int .i64 (x : Int)] (wr.drewN nq) (fun e w' => e = .returned (.bool true) ∧ w' = wr.drewN nq) from (used_in (show MapAt (wr.drewN nq) b m X' from HMr.out) x x1 hm2).mono fun e w' h => ⟨by rw [h.1, x3], h.2.symm⟩)
                have g0 : (0 : Int) ≤ (j : Int) := Int.natCast_nonneg _
                have g1 : (j : Int) < (k : Int) := by omega
                have g2 : ¬ (x : Int) < 4 := by omega
                have xw : IntKind.i64.wrap (x : Int) = (x : Int) := by simp [IntKind.wrap, IntKind.bits, IntKind.signed]; omega
                clear x2 x3 hcx
                by_cases hj0 : j = 0
                · subst hj0
                  go_upto_region 19 with fail
                  go_quiet (first
                    | (go_at_call_of 13 (Value.pointer (some (⟨c, 0, none⟩ : Addr))); exact Calls.quiet_of_same (CU.out _))
                    | (go_at_call_of 13 (Value.pointer (some (⟨b, 0, none⟩ : Addr))); exact Calls.quiet_of_same (CM.out _)))
                  go_wp2
                  go_roundg (k - (0 + 1))
                  case measure => omega
                  case rel => exact ⟨0 + 1, by go_num, rfl, by omega, hid (below_drewN LJ.out _)⟩
                · obtain ⟨y, hy⟩ : ∃ y, l[j - 1]? = some y := ⟨_, List.getElem?_eq_getElem (by have := HLEN.out; omega)⟩
                  have hyx := HS_.out (j - 1) j y x (by omega) hy hx
                  obtain ⟨gg', hgg', _, _, _, hcy⟩ := HROW.out (j - 1) _ (u32v_get hy)
                  cases hgg'
                  have cy : wr.cell? ⟨gg, j - 1, none⟩ = some (.int .u32 (y : Int)) := (LJ.out.cell hgw).trans hcy
                  have cy' : ∀ nq, (wr.drewN nq).cell? ⟨gg, j - 1, none⟩ = some (.int .u32 (y : Int)) := fun _ => cy
                  have g3 : (0 : Int) < (j : Int) := by omega
                  have g3n : 0 < j := by omega
                  have g3d : decide ((0 : Int) < (j : Int)) = true := decide_eq_true g3
                  have g4 : IntKind.i64.wrap ((j : Int) - 1) = (j : Int) - 1 := by simp [IntKind.wrap, IntKind.bits, IntKind.signed]; omega
                  have g5 : ((j : Int) - 1).toNat = j - 1 := by omega
                  have g6 : (0 : Int) ≤ (j : Int) - 1 := by omega
                  have g7 : (j : Int) - 1 < (k : Int) := by omega
                  have g8 : decide ((x : Int) ≤ (y : Int)) = false := decide_eq_false (by omega)
                  have g8n : decide (x ≤ y) = false := decide_eq_false (by omega)
                  have g8m : ¬ x ≤ y := by omega
                  have g8k : y < x := by omega
                  have g9 : (j : Int) < (c5 : Int) := by omega
                  clear hyx hcy hy hx
                  go_upto_region 19 with fail
                  go_quiet (first
                    | (go_at_call_of 13 (Value.pointer (some (⟨c, 0, none⟩ : Addr))); exact Calls.quiet_of_same (CU.out _))
                    | (go_at_call_of 13 (Value.pointer (some (⟨b, 0, none⟩ : Addr))); exact Calls.quiet_of_same (CM.out _)))
                  go_wp2
                  go_roundg (k - (j + 1))
                  case measure => omega
                  case rel => exact ⟨j + 1, by go_num, rfl, by omega, hid (below_drewN LJ.out _)⟩
              · have hjk2 : j = k := by omega
                subst hjk2
                have sj : wr.cell? ⟨sb, so + i * 4, none⟩ = some (.int .i64 K) := (LJ.out.cell (Nat.lt_of_lt_of_le hsb2 HR3.out.size)).trans s0
                have HLJ := hid (show Below w.heap.size w wr from HL3.out.trans (LJ.out.mono HL3.out.size))
                have HMj := hid (show MapAt wr b m X' from HM3.out.below LJ.out HM3.out.lt)
                have hbj := Fn.lt HMj.out
                have hb2 := Fn.lt HM2.out
                by_cases hK : K = 2
                · subst hK
                  go_wp2
                  have LJ' := LJ
                  clear s0 sj LJ
                  obtain ⟨wj, rfl⟩ : ∃ wj, wj = wr := ⟨wr, rfl⟩
                  go_loopg [14] j (fun g v14 wr => ∃ t : Nat, v14 = .int .i64 t ∧ g = j - t ∧ t ≤ j ∧ ∃ Y, Hid (MapAt wr b m Y) ∧ Hid (Tight m Y) ∧ Hid (Lab Y) ∧ Hid (Gone X' l t Y) ∧ Hid (Mod (fun c => c = b) wj wr))
                  case atStart => exact ⟨0, rfl, rfl, by omega, X', HMj, HG', HLB', hid (Gone.zero _ _), hid (Mod.refl _ _)⟩
                  case round =>
                    obtain ⟨t, rfl, hgt, ht, Y, HMY, HGY, HLY, HGO, HRY⟩ := hrel
                    by_cases htk : t < j
                    · obtain ⟨x, hx⟩ : ∃ x, l[t]? = some x := ⟨_, List.getElem?_eq_getElem (by have := HLEN.out; omega)⟩
                      obtain ⟨x1, x2, x3, x4⟩ := HM_.out x (List.mem_of_getElem? hx)
                      obtain ⟨gg, rfl, hkc, hgg, hgw, hcx⟩ := HROW.out t _ (u32v_get hx)
                      have hwj : wj.cell? ⟨gg, t, none⟩ = some (.int .u32 (x : Int)) := (LJ'.out.cell hgw).trans hcx
                      have hgj : gg < wj.heap.size := Nat.lt_of_lt_of_le hgw LJ'.out.size
                      have cx : wr.cell? ⟨gg, t, none⟩ = some (.int .u32 (x : Int)) := (World.cell?_of_block (w := wj) (HRY.out.block gg hgj (by omega))).trans hwj
                      have hux := hid (show used Y x = true from by
                        rw [HGO.out x, x3, Bool.true_and, Bool.not_eq_true', decide_eq_false_iff_not]
                        intro hmem
                        obtain ⟨q, hq⟩ := List.getElem?_of_mem hmem
                        have hqt : q < t := by
                          have := (List.getElem?_eq_some_iff.1 hq).1
                          simp at this; omega
                        rw [List.getElem?_take_of_lt hqt] at hq
                        have := HS_.out q t x x hqt hq hx
                        omega)
                      have HGO' := hid (HGO.out.step hx)
                      have hnx := hid (show used (clrX Y x) x = false from by rw [used_clr, decide_eq_true rfl]; simp)
                      have g0 : (0 : Int) ≤ (t : Int) := Int.natCast_nonneg _
                      have g1 : (t : Int) < (j : Int) := by omega
                      have hX32 : x < 4294967296 := by omega
                      clear x2 x3 hcx hwj hx
                      go_wp2_with first
                        | (go_at_call 14; refine (give_no M5.out x hX32 hm2 (Or.inr (Or.inr hnx.out))).mono ?_; rintro e w' ⟨rfl, rfl⟩)
                        | (go_at_call 14; refine (give_yes HMY.out x x4 x1 hm2 hux.out).mono ?_; rintro e w5 ⟨rfl, hM5, hR5⟩; have M5 := hid hM5; have R5 := hid (HRY.out.trans hR5); have cx5 : w5.cell? ⟨gg, t, none⟩ = some (.int .u32 (x : Int)) := (World.cell?_of_block (w := wr) (hR5.block gg (Nat.lt_of_lt_of_le hgj HRY.out.size) (by omega))).trans cx; clear hM5 hR5)
                      go_roundg (j - (t + 1))
                      case measure => omega
                      case rel => exact ⟨t + 1, by go_num, rfl, by omega, clrX Y x, M5, hid (tight_clr HGY.out), hid (lab_clr HLY.out x4), HGO', R5⟩
                    · have h60 : ¬ (t : Int) < (j : Int) := by omega
                      have HLL := hid (show Below w.heap.size w wr from HLJ.out.trans (HRY.out.below HLJ.out.size (fun c' hc' e => by omega)))
                      go_wp2
                      go_roundg (len - (i + 1))
                      case measure => omega
                      case rel => exact ⟨i + 1, by go_num, rfl, by omega, Y, HMY, HGY, HLY, HLL⟩
                · go_wp2
                  go_roundg (len - (i + 1))
                  case measure => omega
                  case rel => exact ⟨i + 1, by go_num, rfl, by omega, X', HMj, HG', HLB', HLJ⟩
      · have HIL := hid hil
        by_cases hil2 : i < len
        · have h60 : ¬ (i : Int) < 60 := by omega
          clear hil
          go_wp2_with (go_at_call 9; refine (alive_c HTr.out).mono ?_; rintro e w2 ⟨rfl, Lx⟩; have L2 := hid (HL.out.trans (Lx.mono HL.out.size)); clear Lx)
          go_ret
          exact ⟨rfl, L2.out⟩
        · have h60 : ¬ (i : Int) < len := by omega
          clear hil
          go_wp2_with (go_at_call 9; refine (alive_c HTr.out).mono ?_; rintro e w2 ⟨rfl, Lx⟩; have L2 := hid (HL.out.trans (Lx.mono HL.out.size)); clear Lx)
          go_ret
          exact ⟨rfl, L2.out⟩
end Go.Proofs.YtdmlldhlfofegaaDoor
