/- The walk of ShaRoots: the document's 'Right'. -/
import Derived.Test.YtoegpjfpfhjbkaaRootPrimes
import Derived.Test.YtoegpjfpfhjbkaaRefSum
import Derived.Test.YtoegpjfpfhjbkaaLaw
namespace Go.Proofs.Ytoegpjfpfhjbkaa
open Go.RowKit Go.ChangeMaps

theorem P64_len : P64.length = 64 := rfl
theorem P64_lt : ∀ i, i < 64 → P64.getD i 0 < 65536 := by decide
set_option maxRecDepth 100000 in
set_option maxHeartbeats 4000000 in
theorem right_c (w : World) : Calls Try.prog 18 #[] w fun e w' => e = .returned (.bool true) ∧ Below w.heap.size w w' := by
  obtain ⟨ss, hss⟩ : ∃ ss, ss = u32s 8 start.get := ⟨_, rfl⟩
  have hsz : ss.size = 8 := by rw [hss]; exact arr_size _ _
  have hso := hid (show ss.all (·.oneCell') = true by rw [hss]; exact one_arr)
  have HSS := hid hss
  clear hss
  go_enter Try.func18, Try.ntmps18
  go_upto_region 2 with first
    | (refine wpList_store_mid rfl 41 (.tmp 3) (.tmp 8) rfl w3.heap.size 0 ss rfl rfl (there_set (zero8 w3) hsz) (by rw [hsz]; kernel_rfl) hso.out ?_)
    | (go_at_call 26; refine (primes_c _).mono ?_; rintro e w1 ⟨v1, rfl, O1, Lx⟩; have P1 := hid O1; have L1 := hid Lx; clear O1 Lx)
    | (go_at_call 22; refine (rsteps_c _).mono ?_; rintro e w2 ⟨rfl, hk2, K2, Lx⟩; have K2' := hid K2; have L2 := hid Lx; clear K2 Lx)
    | (go_at_call 21; refine (rstart_c _).mono ?_; rintro e w3 ⟨rfl, Lx⟩; have L3 := hid Lx; clear Lx; rw [← HSS.out])
  have F4 := hid (show Fn ((w3.alloc (.cells #[.int .u32 0, .int .u32 0, .int .u32 0, .int .u32 0, .int .u32 0, .int .u32 0, .int .u32 0, .int .u32 0] 41)).setCells w3.heap.size 0 ss.toList) w3.heap.size 41 8 (fun j => .int .u32 (u (start.get j))) from by rw [HSS.out]; exact (zero8 w3).storeAll _)
  have L4 := hid (show Below w3.heap.size w3 ((w3.alloc (.cells #[.int .u32 0, .int .u32 0, .int .u32 0, .int .u32 0, .int .u32 0, .int .u32 0, .int .u32 0, .int .u32 0] 41)).setCells w3.heap.size 0 ss.toList) from (Mod.setCells (S := fun c => c = w3.heap.size) _ 0 _ ((Mod.refl _ w3).alloc _) (fun hh => rfl)).below (Nat.le_refl _) (fun c hc e => by omega))
  generalize (w3.alloc (.cells #[.int .u32 0, .int .u32 0, .int .u32 0, .int .u32 0, .int .u32 0, .int .u32 0, .int .u32 0, .int .u32 0] 41)).setCells w3.heap.size 0 ss.toList = w4 at F4 L4 ⊢
  have z1 := L1.out.size
  have z2 := L2.out.size
  have z3 := L3.out.size
  have z4 := F4.out.lt
  obtain ⟨p1, c1, e1⟩ := own_slice P1.out
  subst e1
  obtain ⟨g, rfl, hc1, hc2, hg1, hg2, hcell⟩ := own_row P1.out (by omega)
  have q2 : g < w2.heap.size := by omega
  have q3 : g < w3.heap.size := by omega
  have q4 : w1.heap.size < w3.heap.size := by omega
  have CP := hid (show ∀ i, i < 64 → w4.cell? ⟨g, i, none⟩ = some (.int .u64 (P64.getD i 0 : Int)) from fun i hi => by
    have h1 := hcell i (.int .u64 (P64.getD i 0 : Int)) (by unfold nv; rw [List.getElem?_map, List.getElem?_eq_getElem (by rw [P64_len]; exact hi), List.getD_eq_getElem?_getD, List.getElem?_eq_getElem (by rw [P64_len]; exact hi)]; rfl)
    exact (L4.out.cell q3).trans ((L3.out.cell q2).trans ((L2.out.cell hg2).trans h1)))
  have CK := hid (show ∀ i, i < 64 → w4.cell? ⟨w1.heap.size, i, none⟩ = some (.int .u32 (u (kAt i))) from fun i hi => (L4.out.cell q4).trans ((L3.out.cell hk2).trans (K2'.out i hi)))
  have LW := hid (show Below w.heap.size w w4 from ((L1.out.trans (L2.out.mono z1)).trans (L3.out.mono (by omega))).trans (L4.out.mono (by omega)))
  have hg4 : g < w4.heap.size := by omega
  have hk4 : w1.heap.size < w4.heap.size := by omega
  clear hcell L1 L2 L3 L4 P1 K2' z1 z2 z3 hk2 hg1 hg2 q2 q3 q4
  generalize w1.heap.size = kb at *
  go_wp2
  go_loopg [4] 64 (fun g4 v4 wr => ∃ i : Nat, v4 = .int .i64 i ∧ g4 = 64 - i ∧ i ≤ 64 ∧ Hid (Below w4.heap.size w4 wr))
  case atStart => exact ⟨0, rfl, rfl, by omega, hid (Below.refl _ _)⟩
  case round =>
    obtain ⟨i, rfl, hgi, hi, LR⟩ := hrel
    by_cases hi4 : i < 64
    · have m0 : (0 : Int) ≤ (i : Int) := Int.natCast_nonneg _
      have m1 : (i : Int) < 64 := by omega
      have b1 : wr.cell? ⟨g, i, none⟩ = some (.int .u64 (P64.getD i 0 : Int)) := (LR.out.cell hg4).trans (CP.out i hi4)
      have b2 : wr.cell? ⟨kb, i, none⟩ = some (.int .u32 (u (kAt i))) := (LR.out.cell hk4).trans (CK.out i hi4)
      have hp := hid (P64_lt i hi4)
      have hroot := hid (show ((rootN (P64.getD i 0) true % 4294967296 : Nat) : Int) = u (kAt i) from by rw [roots_cube i hi4]; rfl)
      have hgr := Nat.lt_of_lt_of_le hg4 LR.out.size
      have hkr := Nat.lt_of_lt_of_le hk4 LR.out.size
      generalize P64.getD i 0 = P at *
      generalize kAt i = K at *
      go_upto_region 5 with fail
      go_region_held3 (fun w' => w'.cell? ⟨g, i, none⟩ = some (.int .u64 (P : Int)) ∧ w'.cell? ⟨kb, i, none⟩ = some (.int .u32 (u K))) (first | exact ⟨b1, b2⟩ | assumption | go_keep) (first
        | (go_at_call 27; refine (root_c _ _ hp.out true).mono ?_; rintro e w5 ⟨rfl, Lx⟩; rw [hroot.out]; have L5 := hid Lx; have c5 : w5.cell? ⟨g, i, none⟩ = some (.int .u64 (P : Int)) ∧ w5.cell? ⟨kb, i, none⟩ = some (.int .u32 (u K)) := ⟨(Lx.cell hgr).trans b1, (Lx.cell hkr).trans b2⟩; clear Lx))
      go_wp2
      go_roundg (64 - (i + 1))
      case measure => omega
      case rel => exact ⟨i + 1, by go_num, rfl, by omega, hid (LR.out.drew.trans (L5.out.mono LR.out.size))⟩
    · have hi5 : i = 64 := by omega
      subst hi5
      clear hgi hi hi4
      go_wp2
      have LW0 := LW
      clear LW CK hk4
      obtain ⟨wq, rfl⟩ : ∃ wq, wq = wr := ⟨wr, rfl⟩
      go_loopg [5] 8 (fun g4 v5 wr => ∃ i : Nat, v5 = .int .i64 i ∧ g4 = 8 - i ∧ i ≤ 8 ∧ Hid (Below w4.heap.size w4 wr))
      case atStart => exact ⟨0, rfl, rfl, by omega, LR⟩
      case round =>
        obtain ⟨i, rfl, hgi, hi, LS⟩ := hrel
        by_cases hi4 : i < 8
        · have m0 : (0 : Int) ≤ (i : Int) := Int.natCast_nonneg _
          have m1 : (i : Int) < 8 := by omega
          have m2 : (i : Int) < 64 := by omega
          have b1 : wr.cell? ⟨g, i, none⟩ = some (.int .u64 (P64.getD i 0 : Int)) := (LS.out.cell hg4).trans (CP.out i (by omega))
          have b2 : wr.cell? ⟨w3.heap.size, i, none⟩ = some (.int .u32 (u (start.get i))) := (LS.out.cell z4).trans (F4.out.cell hi4)
          have hp := hid (P64_lt i (by omega))
          have hroot := hid (show ((rootN (P64.getD i 0) false % 4294967296 : Nat) : Int) = u (start.get i) from by rw [roots_square i hi4]; rfl)
          have hgr := Nat.lt_of_lt_of_le hg4 LS.out.size
          have hkr := Nat.lt_of_lt_of_le z4 LS.out.size
          clear CP F4
          generalize P64.getD i 0 = P at *
          generalize start.get i = K at *
          go_upto_region 10 with fail
          go_region_held3 (fun w' => w'.cell? ⟨g, i, none⟩ = some (.int .u64 (P : Int)) ∧ w'.cell? ⟨w3.heap.size, i, none⟩ = some (.int .u32 (u K))) (first | exact ⟨b1, b2⟩ | assumption | go_keep) (first
            | (go_at_call 27; refine (root_c _ _ hp.out false).mono ?_; rintro e w5 ⟨rfl, Lx⟩; rw [hroot.out]; have L5 := hid Lx; have c5 : w5.cell? ⟨g, i, none⟩ = some (.int .u64 (P : Int)) ∧ w5.cell? ⟨w3.heap.size, i, none⟩ = some (.int .u32 (u K)) := ⟨(Lx.cell hgr).trans b1, (Lx.cell hkr).trans b2⟩; clear Lx))
          go_wp2
          go_roundg (8 - (i + 1))
          case measure => omega
          case rel => exact ⟨i + 1, by go_num, rfl, by omega, hid (LS.out.drew.trans (L5.out.mono LS.out.size))⟩
        · have hi5 : i = 8 := by omega
          subst hi5
          clear hgi hi hi4
          go_wp2
          go_ret
          exact ⟨rfl, LW0.out.trans (LS.out.mono LW0.out.size)⟩
set_option maxHeartbeats 1000000 in
theorem shaRoots_w {w : World} : Calls Try.prog 6 #[] w fun e w' => e = .returned (.bool true) ∧ Below w.heap.size w w' := by
  go_enter Try.func6, Try.ntmps6
  go_wp2_with first
    | (go_at_call 18; refine (right_c _).mono ?_; rintro e w2 ⟨rfl, Lx⟩; have L2 := hid (L1.out.trans (Lx.mono L1.out.size)); clear Lx)
    | (go_at_call 9; refine (alive_c _).mono ?_; rintro e w1 ⟨rfl, Lx⟩; have L1 := hid Lx; clear Lx)
  go_ret
  exact ⟨rfl, L2.out⟩
end Go.Proofs.Ytoegpjfpfhjbkaa
