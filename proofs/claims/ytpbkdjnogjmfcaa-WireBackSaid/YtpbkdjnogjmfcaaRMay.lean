/- The document's May. -/
import Derived.Test.YtpbkdjnogjmfcaaMayc
namespace Go.Proofs.Ytpbkdjnogjmfcaa
open Go.RowKit Go.ChangeMaps

def frmOk (s : Strm) : Prop := if s.inc = true then nameOk s.frm else s.frm = [] ∧ s.base = zero32
instance (s : Strm) : Decidable (frmOk s) := by unfold frmOk; infer_instance
theorem rname_t (w : World) (xs : List W8) (hl : xs.length ≤ 1000000) : Calls Try.prog 23 #[.string (str xs)] w fun e w' => e = .returned (.bool (decide (nameOk xs))) ∧ w = w' := rname_c w (str xs) (by rw [str_size]; omega)
set_option maxRecDepth 100000 in
set_option maxHeartbeats 4000000 in
theorem rmay_c {w : World} {s : Strm} {cv : Value} {zs : Array Value} (hzs : zs = strmV s cv) (hb : s.base.length = 32) (hC : CellsAt w cv s.cells) (hl1 : s.set.length ≤ 1000000) (hl2 : s.frm.length ≤ 1000000) (hl3 : s.til.length ≤ 1000000) :
    Calls Try.prog 13 #[.agg zs] w fun e w' => e = .returned (.bool (decide (mayS s))) ∧ Below w.heap.size w w' := by
  obtain ⟨w1, hw1⟩ : ∃ w1, w1 = w.alloc (.cells zs 35) := ⟨_, rfl⟩
  have L1 := hid (show Below w.heap.size w w1 by rw [hw1]; exact (Below.refl _ w).alloc (Nat.le_refl _) _)
  have F1 := hid (show Fn w1 w.heap.size 35 69 (sf s cv) by rw [hw1, hzs]; exact Fn.arr w _ 69 _)
  have hw1s := hid (show w.heap.size < w1.heap.size from Fn.lt F1.out)
  have RB := hid (strm_base F1.out)
  obtain ⟨p, cap, rfl, hm, hcells⟩ := hC
  obtain ⟨n, hn⟩ : ∃ n, n = s.cells.length := ⟨_, rfl⟩
  have hn' := hid hn
  rw [← hn] at hm hcells F1
  unfold maxLen at hm
  have HC := hid hcells
  obtain ⟨c0, c1, c2, c3, c68⟩ := strm_cells F1.out
  have HMS := hid (show mayS s ↔ ((∀ i, i < s.cells.length → mayC s.cells i) ∧ nameOk s.set ∧ nameOk s.til ∧ frmOk s) from Iff.rfl)
  have hz : ∀ W : World, (zeroValue 22).run Try.prog W = .ok (.agg (hl32 zero32)) W := zero_h32
  have hisz := hid (show (Try.prog.info? 22).map (·.size) = some (hl32 s.base).toList.length from by rw [Array.length_toList, hl32_size]; kernel_rfl)
  have heq := eq32 (x := s.base) (y := zero32) hb (by decide)
  have hE := str_isEmpty s.frm
  clear hcells hn hzs
  by_cases hset : nameOk s.set
  · have N1 := hid (fun W => (by have := rname_t W s.set hl1; rwa [decide_eq_true hset] at this : Calls Try.prog 23 #[.string (str s.set)] W fun e w' => e = .returned (.bool true) ∧ W = w'))
    by_cases htil : nameOk s.til
    · have N2 := hid (fun W => (by have := rname_t W s.til hl3; rwa [decide_eq_true htil] at this : Calls Try.prog 23 #[.string (str s.til)] W fun e w' => e = .returned (.bool true) ∧ W = w'))
      have HST := hid (And.intro hset htil)
      clear hset htil
      go_enter Try.func13, Try.ntmps13
      go_upto_region 1 with fail
      rw [← hw1]
      clear hw1
      go_upto_region 3 with (first
        | (go_at_call 23; ((with_reducible refine (N2.out _).mono ?_); rintro e w2 ⟨rfl, rfl⟩))
        | (go_at_call 23; ((with_reducible refine (N1.out _).mono ?_); rintro e w2 ⟨rfl, rfl⟩)))
      go_cut [38] from 15 to 38 (fun v38 wr => v38 = .bool (!decide (frmOk s)) ∧ w1 = wr)
      case first =>
        by_cases hinc : s.inc = true
        · rw [hinc] at c0
          have hq := hid (show decide (frmOk s) = decide (nameOk s.frm) from decide_eq_decide.2 (by unfold frmOk; rw [if_pos hinc]))
          have N3 := hid (fun W => rname_t W s.frm hl2)
          by_cases hfrm : nameOk s.frm
          · rw [decide_eq_true hfrm] at N3 hq
            clear hinc hfrm
            go_wp2_with (go_at_call 23; ((with_reducible refine (N3.out _).mono ?_); rintro e w2 ⟨rfl, rfl⟩))
            go_meet
            case rel => exact ⟨by rw [hq.out]; rfl, rfl⟩
          · rw [decide_eq_false hfrm] at N3 hq
            clear hinc hfrm
            go_wp2_with (go_at_call 23; ((with_reducible refine (N3.out _).mono ?_); rintro e w2 ⟨rfl, rfl⟩))
            go_meet
            case rel => exact ⟨by rw [hq.out]; rfl, rfl⟩
        · have hinc' : s.inc = false := by simpa using hinc
          rw [hinc'] at c0
          have hq := hid (show decide (frmOk s) = decide (s.frm = [] ∧ s.base = zero32) from decide_eq_decide.2 (by unfold frmOk; rw [if_neg hinc]))
          by_cases hfrm : s.frm = []
          · have hq' := hid (hq.out.trans (show _ = decide (s.base = zero32) by simp [hfrm]))
            rw [decide_eq_true hfrm] at hE
            have hE2 : (!(str s.frm).toList.isEmpty) = false := by rw [hE]; rfl
            clear hinc hinc' hfrm
            go_wp2_with ((with_reducible refine at_op (.load 22 (.tmp 32)) rfl ?_); refine wpList_load_g (by rfl) 22 (.tmp 32) rfl w.heap.size 4 rfl (hl32 s.base).toList _ RB.out Try.underlying22 rfl hisz.out ?_)
            go_meet
            case rel => exact ⟨by first | (rw [hq'.out]; done) | (rw [hq'.out]; rfl), rfl⟩
          · have hq' := hid (hq.out.trans (show _ = false by simp [hfrm]))
            rw [decide_eq_false hfrm] at hE
            have hE2 : (!(str s.frm).toList.isEmpty) = true := by rw [hE]; rfl
            clear hinc hinc' hfrm
            go_wp2
            go_meet
            case rel => exact ⟨by first | (rw [hq'.out]; done) | (rw [hq'.out]; rfl), rfl⟩
      case rest =>
        obtain ⟨rfl, rfl⟩ := hcut
        clear heq hE
        by_cases hfr : frmOk s
        · rw [decide_eq_true hfr]
          simp only [Bool.not_true]
          have HFR := hid hfr
          clear hfr
          go_wp2
          go_loopg [3] n (fun g v3 wr => ∃ i : Nat, v3 = .int .i64 i ∧ g = n - i ∧ i ≤ n ∧ Hid (∀ j, j < i → mayC s.cells j) ∧ Hid (Below w1.heap.size w1 wr))
          case atStart => exact ⟨0, rfl, rfl, Nat.zero_le _, hid (fun j hj => absurd hj (Nat.not_lt_zero j)), hid (Below.refl _ _)⟩
          case round =>
            obtain ⟨i, rfl, hg, hi, HM, BR⟩ := hrel
            by_cases hlt : i < n
            · have hlti : (i : Int) < (n : Int) := by omega
              obtain ⟨b, off, e, hbl, hcap, hcell⟩ := HC.out (by omega)
              cases e
              obtain ⟨vb, k1, k2, k3⟩ := hcell i hlt
              have LL := hid (L1.out.trans (BR.out.mono L1.out.size))
              obtain ⟨a, ha⟩ : ∃ a, a = (cellAt s.cells i).1 := ⟨_, rfl⟩
              obtain ⟨pb, cb, rfl⟩ := k3.len
              obtain ⟨l, hl⟩ : ∃ l, l = (cellAt s.cells i).2.length := ⟨_, rfl⟩
              rw [← ha] at k1
              rw [← hl] at k2
              have ha' := hid ha; have hl' := hid hl
              have hcok := hid (show cellOk (cellAt s.cells i) ↔ (0 ≤ a ∧ a < 16 ∧ (l = 0 ∨ l = 256)) by rw [ha, hl]; exact Iff.rfl)
              have hcapi : (n : Int) ≤ (cap : Int) := by omega
              have d1 : wr.cell? ⟨b, off + i * 2, none⟩ = some (.int .i64 a) := (LL.out.cell (p := ⟨b, off + i * 2, none⟩) hbl).trans k1
              have d2 : wr.cell? ⟨b, off + i * 2 + 1, none⟩ = some (.slice pb l cb) := (LL.out.cell (p := ⟨b, off + i * 2 + 1, none⟩) hbl).trans k2
              have d68 : wr.cell? ⟨w.heap.size, 68, none⟩ = some (.slice (some ⟨b, off, none⟩) n cap) := (BR.out.cell (p := ⟨w.heap.size, 68, none⟩) hw1s.out).trans c68
              have g1 : ∀ m : Wd wr, m.w.cell? ⟨b, off + i * 2, none⟩ = some (.int .i64 a) := fun m => (m.h.cell (p := ⟨b, off + i * 2, none⟩) (show b < wr.heap.size by have := LL.out.size; omega)).trans d1
              have g68 : ∀ m : Wd wr, m.w.cell? ⟨w.heap.size, 68, none⟩ = some (.slice (some ⟨b, off, none⟩) n cap) := fun m => (m.h.cell (p := ⟨w.heap.size, 68, none⟩) (show w.heap.size < wr.heap.size by have := BR.out.size; have := hw1s.out; omega)).trans d68
              have HK := hid hcell
              clear k1 k2 k3 hcell ha hl
              by_cases h0 : a < 0
              · have HF := hid (show ¬ mayS s from fun h => (show ¬ mayC s.cells i from fun h => by have := hcok.out.1 h.1; omega) (h.1 i (by rw [← hn'.out]; exact hlt)))
                go_upto_region 9 with fail
                refine region_wd (by kernel_rfl) (by kernel_rfl) ?_
                repeat (first
                  | go_big_quiet_skip
                  | (go_big_quiet_want
                     go_big_quiet_op
                     go_big_quiet_on))
                refine wpQuiet_nil ?_
                rintro _ ⟨nq, rfl⟩
                go_wp2
                go_ret
                exact ⟨by rw [decide_eq_false HF.out]; rfl, LL.out.trans (nq.h.mono LL.out.size)⟩
              · by_cases h16 : 16 ≤ a
                · have HF := hid (show ¬ mayS s from fun h => (show ¬ mayC s.cells i from fun h => by have := hcok.out.1 h.1; omega) (h.1 i (by rw [← hn'.out]; exact hlt)))
                  go_upto_region 9 with fail
                  refine region_wd (by kernel_rfl) (by kernel_rfl) ?_
                  repeat (first
                    | go_big_quiet_skip
                    | (go_big_quiet_want
                       go_big_quiet_op
                       go_big_quiet_on))
                  refine wpQuiet_nil ?_
                  rintro _ ⟨nq, rfl⟩
                  go_wp2
                  go_ret
                  exact ⟨by rw [decide_eq_false HF.out]; rfl, LL.out.trans (nq.h.mono LL.out.size)⟩
                · by_cases hl0 : l = 0
                  · have HOK := hid (hcok.out.2 ⟨by omega, by omega, Or.inl hl0⟩)
                    subst hl0
                    rcases Nat.eq_zero_or_pos i with hi0 | hi0
                    · have hi0i : decide ((0 : Int) < (i : Int)) = false := decide_eq_false (by omega)
                      have hi0j : decide (0 < i) = false := decide_eq_false (by omega)
                      have HYES := hid (show mayC s.cells i from ⟨HOK.out, fun h => by omega⟩)
                      clear hi0
                      go_upto_region 9 with fail
                      refine region_wd (by kernel_rfl) (by kernel_rfl) ?_
                      repeat (first
                        | go_big_quiet_skip
                        | (go_big_quiet_want
                           go_big_quiet_op
                           go_big_quiet_on))
                      refine wpQuiet_nil ?_
                      rintro _ ⟨nq, rfl⟩
                      have HM2 := hid (show ∀ k, k < i + 1 → mayC s.cells k from fun k hk => by
                        by_cases e : k = i
                        · rw [e]; exact HYES.out
                        · exact HM.out k (by omega))
                      have BR2 := hid (show Below w1.heap.size w1 nq.w from BR.out.trans (nq.h.mono BR.out.size))
                      go_wp2
                      go_roundg (n - (i + 1))
                      case measure => omega
                      case rel => exact ⟨i + 1, by go_num, rfl, by omega, HM2, BR2⟩
                    · obtain ⟨j, rfl⟩ : ∃ j, i = j + 1 := ⟨i - 1, by omega⟩
                      clear hi0
                      obtain ⟨vb', k1', _, _⟩ := HK.out j (by omega)
                      obtain ⟨a0, ha0⟩ : ∃ a0, a0 = (cellAt s.cells j).1 := ⟨_, rfl⟩
                      rw [← ha0] at k1'
                      have ha0' := hid ha0
                      have gp : ∀ m : Wd wr, m.w.cell? ⟨b, off + j * 2, none⟩ = some (.int .i64 a0) := fun m => ((LL.out.trans (m.h.mono LL.out.size)).cell (p := ⟨b, off + j * 2, none⟩) hbl).trans k1'
                      clear k1' ha0
                      have hj1 : ((j : Int) + 1 - 1) = (j : Int) := by omega
                      have hj2 : (j : Int) < (n : Int) := by omega
                      have hj3 : IntKind.i64.wrap ((j : Int) + 1 - 1) = (j : Int) := by rw [hj1]; exact IntWalk.i64_in _ (by omega)
                      by_cases hle : a ≤ a0
                      · have HF := hid (show ¬ mayS s from fun h => (show ¬ mayC s.cells (j + 1) from fun h => by have := h.2 (by omega); rw [show j + 1 - 1 = j by omega, ← ha'.out, ← ha0'.out] at this; omega) (h.1 (j + 1) (by rw [← hn'.out]; exact hlt)))
                        go_upto_region 9 with fail
                        refine region_wd (by kernel_rfl) (by kernel_rfl) ?_
                        repeat (first
                          | go_big_quiet_skip
                          | (go_big_quiet_want
                             go_big_quiet_op
                             go_big_quiet_on))
                        refine wpQuiet_nil ?_
                        rintro _ ⟨nq, rfl⟩
                        go_wp2
                        go_ret
                        exact ⟨by rw [decide_eq_false HF.out]; rfl, LL.out.trans (nq.h.mono LL.out.size)⟩
                      · have HYES := hid (show mayC s.cells (j + 1) from ⟨HOK.out, fun _ => by rw [show j + 1 - 1 = j by omega, ← ha'.out, ← ha0'.out]; omega⟩)
                        go_upto_region 9 with fail
                        refine region_wd (by kernel_rfl) (by kernel_rfl) ?_
                        repeat (first
                          | go_big_quiet_skip
                          | (go_big_quiet_want
                             go_big_quiet_op
                             go_big_quiet_on))
                        refine wpQuiet_nil ?_
                        rintro _ ⟨nq, rfl⟩
                        have HM2 := hid (show ∀ k, k < (j + 1) + 1 → mayC s.cells k from fun k hk => by
                          by_cases e : k = (j + 1)
                          · rw [e]; exact HYES.out
                          · exact HM.out k (by omega))
                        have BR2 := hid (show Below w1.heap.size w1 nq.w from BR.out.trans (nq.h.mono BR.out.size))
                        go_wp2
                        go_roundg (n - ((j + 1) + 1))
                        case measure => omega
                        case rel => exact ⟨(j + 1) + 1, by go_num, rfl, by omega, HM2, BR2⟩
                  · have hl0i : ((l : Int) == 0) = false := by simp; omega
                    have hl0j : ((l : Int) != 0) = true := by simp; omega
                    by_cases hl2 : l = 256
                    · have HOK := hid (hcok.out.2 ⟨by omega, by omega, Or.inr hl2⟩)
                      subst hl2
                      rcases Nat.eq_zero_or_pos i with hi0 | hi0
                      · have hi0i : decide ((0 : Int) < (i : Int)) = false := decide_eq_false (by omega)
                        have hi0j : decide (0 < i) = false := decide_eq_false (by omega)
                        have HYES := hid (show mayC s.cells i from ⟨HOK.out, fun h => by omega⟩)
                        clear hi0
                        go_upto_region 9 with fail
                        refine region_wd (by kernel_rfl) (by kernel_rfl) ?_
                        repeat (first
                          | go_big_quiet_skip
                          | (go_big_quiet_want
                             go_big_quiet_op
                             go_big_quiet_on))
                        refine wpQuiet_nil ?_
                        rintro _ ⟨nq, rfl⟩
                        have HM2 := hid (show ∀ k, k < i + 1 → mayC s.cells k from fun k hk => by
                          by_cases e : k = i
                          · rw [e]; exact HYES.out
                          · exact HM.out k (by omega))
                        have BR2 := hid (show Below w1.heap.size w1 nq.w from BR.out.trans (nq.h.mono BR.out.size))
                        go_wp2
                        go_roundg (n - (i + 1))
                        case measure => omega
                        case rel => exact ⟨i + 1, by go_num, rfl, by omega, HM2, BR2⟩
                      · obtain ⟨j, rfl⟩ : ∃ j, i = j + 1 := ⟨i - 1, by omega⟩
                        clear hi0
                        obtain ⟨vb', k1', _, _⟩ := HK.out j (by omega)
                        obtain ⟨a0, ha0⟩ : ∃ a0, a0 = (cellAt s.cells j).1 := ⟨_, rfl⟩
                        rw [← ha0] at k1'
                        have ha0' := hid ha0
                        have gp : ∀ m : Wd wr, m.w.cell? ⟨b, off + j * 2, none⟩ = some (.int .i64 a0) := fun m => ((LL.out.trans (m.h.mono LL.out.size)).cell (p := ⟨b, off + j * 2, none⟩) hbl).trans k1'
                        clear k1' ha0
                        have hj1 : ((j : Int) + 1 - 1) = (j : Int) := by omega
                        have hj2 : (j : Int) < (n : Int) := by omega
                        have hj3 : IntKind.i64.wrap ((j : Int) + 1 - 1) = (j : Int) := by rw [hj1]; exact IntWalk.i64_in _ (by omega)
                        by_cases hle : a ≤ a0
                        · have HF := hid (show ¬ mayS s from fun h => (show ¬ mayC s.cells (j + 1) from fun h => by have := h.2 (by omega); rw [show j + 1 - 1 = j by omega, ← ha'.out, ← ha0'.out] at this; omega) (h.1 (j + 1) (by rw [← hn'.out]; exact hlt)))
                          go_upto_region 9 with fail
                          refine region_wd (by kernel_rfl) (by kernel_rfl) ?_
                          repeat (first
                            | go_big_quiet_skip
                            | (go_big_quiet_want
                               go_big_quiet_op
                               go_big_quiet_on))
                          refine wpQuiet_nil ?_
                          rintro _ ⟨nq, rfl⟩
                          go_wp2
                          go_ret
                          exact ⟨by rw [decide_eq_false HF.out]; rfl, LL.out.trans (nq.h.mono LL.out.size)⟩
                        · have HYES := hid (show mayC s.cells (j + 1) from ⟨HOK.out, fun _ => by rw [show j + 1 - 1 = j by omega, ← ha'.out, ← ha0'.out]; omega⟩)
                          go_upto_region 9 with fail
                          refine region_wd (by kernel_rfl) (by kernel_rfl) ?_
                          repeat (first
                            | go_big_quiet_skip
                            | (go_big_quiet_want
                               go_big_quiet_op
                               go_big_quiet_on))
                          refine wpQuiet_nil ?_
                          rintro _ ⟨nq, rfl⟩
                          have HM2 := hid (show ∀ k, k < (j + 1) + 1 → mayC s.cells k from fun k hk => by
                            by_cases e : k = (j + 1)
                            · rw [e]; exact HYES.out
                            · exact HM.out k (by omega))
                          have BR2 := hid (show Below w1.heap.size w1 nq.w from BR.out.trans (nq.h.mono BR.out.size))
                          go_wp2
                          go_roundg (n - ((j + 1) + 1))
                          case measure => omega
                          case rel => exact ⟨(j + 1) + 1, by go_num, rfl, by omega, HM2, BR2⟩
                    · have hl2i : ((l : Int) == 256) = false := by simp; omega
                      have hl2j : ((l : Int) != 256) = true := by simp; omega
                      have HF := hid (show ¬ mayS s from fun h => (show ¬ mayC s.cells i from fun h => by have := hcok.out.1 h.1; omega) (h.1 i (by rw [← hn'.out]; exact hlt)))
                      go_upto_region 9 with fail
                      refine region_wd (by kernel_rfl) (by kernel_rfl) ?_
                      repeat (first
                        | go_big_quiet_skip
                        | (go_big_quiet_want
                           go_big_quiet_op
                           go_big_quiet_on))
                      refine wpQuiet_nil ?_
                      rintro _ ⟨nq, rfl⟩
                      go_wp2
                      go_ret
                      exact ⟨by rw [decide_eq_false HF.out]; rfl, LL.out.trans (nq.h.mono LL.out.size)⟩
            · have hlti : ¬ (i : Int) < (n : Int) := by omega
              have hall := hid (show decide (mayS s) = true from decide_eq_true (HMS.out.2 ⟨fun j hj => HM.out j (by rw [← hn'.out] at hj; omega), HST.out.1, HST.out.2, HFR.out⟩))
              have LL := hid (L1.out.trans (BR.out.mono L1.out.size))
              have d68 : wr.cell? ⟨w.heap.size, 68, none⟩ = some (.slice p n cap) := (BR.out.cell (p := ⟨w.heap.size, 68, none⟩) hw1s.out).trans c68
              go_wp2
              go_ret
              exact ⟨by rw [hall.out]; rfl, LL.out⟩
        · rw [decide_eq_false hfr]
          simp only [Bool.not_false]
          have hq := hid (show decide (mayS s) = false from decide_eq_false (fun h => hfr (HMS.out.1 h).2.2.2))
          clear hfr
          go_wp2
          go_ret
          exact ⟨by rw [hq.out]; rfl, L1.out⟩
    · have N2 := hid (fun W => (by have := rname_t W s.til hl3; rwa [decide_eq_false htil] at this : Calls Try.prog 23 #[.string (str s.til)] W fun e w' => e = .returned (.bool false) ∧ W = w'))
      have hq := hid (show decide (mayS s) = false from decide_eq_false (fun h => htil (HMS.out.1 h).2.2.1))
      clear hset htil
      go_enter Try.func13, Try.ntmps13
      go_upto_region 1 with fail
      rw [← hw1]
      clear hw1
      go_wp2_with (first
        | (go_at_call 23; ((with_reducible refine (N2.out _).mono ?_); rintro e w2 ⟨rfl, rfl⟩))
        | (go_at_call 23; ((with_reducible refine (N1.out _).mono ?_); rintro e w2 ⟨rfl, rfl⟩)))
      go_ret
      exact ⟨by rw [hq.out]; rfl, L1.out⟩
  · have N1 := hid (fun W => (by have := rname_t W s.set hl1; rwa [decide_eq_false hset] at this : Calls Try.prog 23 #[.string (str s.set)] W fun e w' => e = .returned (.bool false) ∧ W = w'))
    have hq := hid (show decide (mayS s) = false from decide_eq_false (fun h => hset (HMS.out.1 h).2.1))
    clear hset
    go_enter Try.func13, Try.ntmps13
    go_upto_region 1 with fail
    rw [← hw1]
    clear hw1
    go_wp2_with (go_at_call 23; ((with_reducible refine (N1.out _).mono ?_); rintro e w2 ⟨rfl, rfl⟩))
    go_ret
    exact ⟨by rw [hq.out]; rfl, L1.out⟩
end Go.Proofs.Ytpbkdjnogjmfcaa

