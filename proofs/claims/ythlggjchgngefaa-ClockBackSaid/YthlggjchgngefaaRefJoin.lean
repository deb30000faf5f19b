/- A date as seconds: the document. -/
import Derived.Test.YthlggjchgngefaaJoin
namespace Go.Proofs.Ythlggjchgngefaa
open Go.RowKit

theorem join_num' {n T : Int} (h1 : 0 ≤ n) (h2 : n ≤ 100000) (h7 : 0 ≤ T) (h8 : T ≤ 100000) :
    IntKind.u64.wrap (IntKind.u64.wrap (n * 86400) + T) = n * 86400 + T := by
  rw [wu64 (x := n * 86400) (by omega) (by omega), wu64 (by omega) (by omega)]
def sumTo (N : Nat) (y m : Int) (n : Nat) : Int := if n ≤ N then Cal.yd n else Cal.yd N + Cal.md y (m - 1).toNat
theorem sumTo_lo {N : Nat} {y m : Int} {n : Nat} (h : n ≤ N) : sumTo N y m n = Cal.yd n := if_pos h
theorem sumTo_hi {N : Nat} {y m : Int} {n : Nat} (h : N < n) : sumTo N y m n = Cal.yd N + Cal.md y (m - 1).toNat := if_neg (by omega)

set_option maxRecDepth 100000 in
set_option maxHeartbeats 4000000 in
theorem refJoin_yes (w : World) (y m d h mi s : Int) (hv : Cal.valid y m d) (ht : Cal.vtime h mi s) : Calls Try.prog 9 #[dv y m d h mi s] w fun e w' => e = .returned (.tuple #[.int .u64 (Cal.tn y m d h mi s), .int .i64 0]) ∧ Below w.heap.size w w' := by
  have hvi := hv.in_
  have HT := hid (show Cal.tn y m d h mi s = (d - 1 + (Cal.yd (y - 2000).toNat + Cal.md y (m - 1).toNat)) * 86400 + (h * 3600 + mi * 60 + s) by unfold Cal.tn Cal.dn; omega)
  have b := Cal.dim_range y m
  obtain ⟨hv1, hv2⟩ := hv
  obtain ⟨g1, g2, g3, g4⟩ := hvi
  obtain ⟨t1, t2', t3, t4', t5, t6'⟩ := ht
  have t2 : h ≤ 23 := by omega
  have t4 : mi ≤ 59 := by omega
  have t6 : s ≤ 59 := by omega
  clear t2' t4' t6'
  obtain ⟨b1, b2⟩ := b
  obtain ⟨N, hN⟩ : ∃ N : Nat, y = 2000 + N := ⟨(y - 2000).toNat, by omega⟩
  subst hN
  have HN := hid (show ((2000 : Int) + N - 2000).toNat = N by omega)
  unfold dv
  go_enter Try.func9, Try.ntmps9
  go_wp2_with fail
  go_quiet ((go_at_call 13; exact quiet_left (refDays_c _ _ _)))
  go_wp2_with fail
  have y1 := Cal.yd_bd N
  have m1 := Cal.md_bd (2000 + N) (m - 1).toNat
  obtain ⟨y1, y2⟩ := y1
  obtain ⟨m1, m2⟩ := m1
  go_loop [4, 5, 6] (fun v4 v5 _ => ∃ n : Nat, n ≤ N + 1 ∧ v5 = .int .i64 (2000 + (n : Int)) ∧ v4 = .int .u64 (d - 1 + sumTo N (2000 + N) m n)) (fun _ v5 _ => (3000 - intOf v5).toNat)
  case atStart => exact ⟨0, by omega, rfl, by rw [sumTo_lo (by omega)]; simp [Cal.yd]⟩
  case round =>
    obtain ⟨n, hn, rfl, rfl⟩ := hrel
    have n1 := (Cal.yd_bd n).1
    have n2 := (Cal.yd_bd n).2
    by_cases hc : n ≤ N
    · rw [sumTo_lo hc]
      go_wp2
      go_loop [4, 6] (fun v4 v6 => ∃ k : Nat, k ≤ 12 ∧ (n = N → (k : Int) + 1 ≤ m) ∧ v6 = .int .i64 ((k : Int) + 1) ∧ v4 = .int .u64 (d - 1 + (Cal.yd n + Cal.md (2000 + n) k))) (fun _ v6 => (13 - intOf v6).toNat)
      case atStart => exact ⟨0, by omega, fun _ => by omega, rfl, by simp [Cal.md]⟩
      case round =>
        obtain ⟨k, hk, hkm, rfl, rfl⟩ := hrel
        have b3 := (Cal.md_bd (2000 + n) k).1
        have b4 := (Cal.md_bd (2000 + n) k).2
        have b5 := (Cal.dim_range (2000 + n) (k + 1)).1
        have b6 := (Cal.dim_range (2000 + n) (k + 1)).2
        have ES := hid (show Cal.md (2000 + n) (k + 1) = Cal.md (2000 + n) k + Cal.dim (2000 + n) (k + 1) from rfl)
        by_cases hg : k < 12 ∧ (n < N ∨ (k : Int) + 1 < m)
        · obtain ⟨hk2, hg2⟩ := hg
          by_cases hnN : n < N
          · have HM := hid hkm
            clear hkm hg2
            go_wp2_with (go_at_call 13; refine (refDays_c _ _ _).mono ?_; rintro e w' ⟨rfl, rfl⟩)
            go_round
            case rel => exact ⟨k + 1, by omega, fun h => by omega, by go_num, by rw [ES.out]; congr 1; omega⟩
            case measure => simp [intOf]; omega
          · have hlt : (k : Int) + 1 < m := by omega
            have HM := hid hkm
            clear hkm hg2
            go_wp2_with (go_at_call 13; refine (refDays_c _ _ _).mono ?_; rintro e w' ⟨rfl, rfl⟩)
            go_round
            case rel => exact ⟨k + 1, by omega, fun h => by omega, by go_num, by rw [ES.out]; congr 1; omega⟩
            case measure => simp [intOf]; omega
        · have HS := hid (show Cal.yd n + Cal.md (2000 + n) k = sumTo N (2000 + N) m (n + 1) by
            by_cases hnN : n < N
            · have hk3 : k = 12 := by omega
              subst hk3
              rw [sumTo_lo (by omega)]; rfl
            · have hnN' : n = N := by omega
              subst hnN'
              have := hkm rfl
              have hk3 : k = (m - 1).toNat := by omega
              rw [sumTo_hi (by omega), ← hk3])
          by_cases hk3 : k < 12
          · have hnN : ¬ n < N := by omega
            have hlt : ¬ (k : Int) + 1 < m := by omega
            have HM := hid hkm
            clear hkm hg
            go_wp2
            go_round
            case rel => exact ⟨n + 1, by omega, by go_num, by rw [HS.out]⟩
            case measure => simp [intOf]; omega
          · have HM := hid hkm
            clear hkm hg
            go_wp2
            go_round
            case rel => exact ⟨n + 1, by omega, by go_num, by rw [HS.out]⟩
            case measure => simp [intOf]; omega
    · have hn2 : n = N + 1 := by omega
      subst hn2
      rw [sumTo_hi (by omega)]
      go_wp2
      go_ret2
      refine ⟨ret2_int ?_, ?_⟩
      · rw [HT.out, HN.out]
        rw [show m.toNat - 1 = (m - 1).toNat by omega]
        exact join_num' (by omega) (by omega) (by omega) (by omega)
      · exact Below.drewN ((Below.refl _ _).alloc (Nat.le_refl _) _) _

set_option maxRecDepth 100000 in
set_option maxHeartbeats 2000000 in
theorem refJoin_no0 (w : World) (y m d h mi s : Int) (hd : d < 1)  : Calls Try.prog 9 #[dv y m d h mi s] w fun e w' => e = .returned (.tuple #[.int .u64 0, .int .i64 1]) ∧ Below w.heap.size w w' := by
  unfold dv
  go_enter Try.func9, Try.ntmps9
  go_wp2_with fail
  go_quiet ((go_at_call 13; exact quiet_left (refDays_c _ _ _)))
  go_wp2_with fail
  go_ret2
  exact ⟨rfl, Below.drewN ((Below.refl _ _).alloc (Nat.le_refl _) _) _⟩

set_option maxRecDepth 100000 in
set_option maxHeartbeats 2000000 in
theorem refJoin_no1 (w : World) (y m d h mi s : Int) (hd : Cal.dim y m < d) (hd1 : 1 ≤ d) : Calls Try.prog 9 #[dv y m d h mi s] w fun e w' => e = .returned (.tuple #[.int .u64 0, .int .i64 1]) ∧ Below w.heap.size w w' := by
  unfold dv
  go_enter Try.func9, Try.ntmps9
  go_wp2_with fail
  go_quiet ((go_at_call 13; exact quiet_left (refDays_c _ _ _)))
  go_wp2_with fail
  go_ret2
  exact ⟨rfl, Below.drewN ((Below.refl _ _).alloc (Nat.le_refl _) _) _⟩

set_option maxRecDepth 100000 in
set_option maxHeartbeats 2000000 in
theorem refJoin_no2 (w : World) (y m d h mi s : Int) (hx : h < 0) (hd1 : 1 ≤ d) (hd2 : d ≤ Cal.dim y m) : Calls Try.prog 9 #[dv y m d h mi s] w fun e w' => e = .returned (.tuple #[.int .u64 0, .int .i64 1]) ∧ Below w.heap.size w w' := by
  unfold dv
  go_enter Try.func9, Try.ntmps9
  go_wp2_with fail
  go_quiet ((go_at_call 13; exact quiet_left (refDays_c _ _ _)))
  go_wp2_with fail
  go_ret2
  exact ⟨rfl, Below.drewN ((Below.refl _ _).alloc (Nat.le_refl _) _) _⟩

set_option maxRecDepth 100000 in
set_option maxHeartbeats 2000000 in
theorem refJoin_no3 (w : World) (y m d h mi s : Int) (hx : 23 < h) (hd1 : 1 ≤ d) (hd2 : d ≤ Cal.dim y m) (t1 : 0 ≤ h) : Calls Try.prog 9 #[dv y m d h mi s] w fun e w' => e = .returned (.tuple #[.int .u64 0, .int .i64 1]) ∧ Below w.heap.size w w' := by
  unfold dv
  go_enter Try.func9, Try.ntmps9
  go_wp2_with fail
  go_quiet ((go_at_call 13; exact quiet_left (refDays_c _ _ _)))
  go_wp2_with fail
  go_ret2
  exact ⟨rfl, Below.drewN ((Below.refl _ _).alloc (Nat.le_refl _) _) _⟩

set_option maxRecDepth 100000 in
set_option maxHeartbeats 2000000 in
theorem refJoin_no4 (w : World) (y m d h mi s : Int) (hx : mi < 0) (hd1 : 1 ≤ d) (hd2 : d ≤ Cal.dim y m) (t1 : 0 ≤ h) (t2 : h ≤ 23) : Calls Try.prog 9 #[dv y m d h mi s] w fun e w' => e = .returned (.tuple #[.int .u64 0, .int .i64 1]) ∧ Below w.heap.size w w' := by
  unfold dv
  go_enter Try.func9, Try.ntmps9
  go_wp2_with fail
  go_quiet ((go_at_call 13; exact quiet_left (refDays_c _ _ _)))
  go_wp2_with fail
  go_ret2
  exact ⟨rfl, Below.drewN ((Below.refl _ _).alloc (Nat.le_refl _) _) _⟩

set_option maxRecDepth 100000 in
set_option maxHeartbeats 2000000 in
theorem refJoin_no5 (w : World) (y m d h mi s : Int) (hx : 59 < mi) (hd1 : 1 ≤ d) (hd2 : d ≤ Cal.dim y m) (t1 : 0 ≤ h) (t2 : h ≤ 23) (t3 : 0 ≤ mi) : Calls Try.prog 9 #[dv y m d h mi s] w fun e w' => e = .returned (.tuple #[.int .u64 0, .int .i64 1]) ∧ Below w.heap.size w w' := by
  unfold dv
  go_enter Try.func9, Try.ntmps9
  go_wp2_with fail
  go_quiet ((go_at_call 13; exact quiet_left (refDays_c _ _ _)))
  go_wp2_with fail
  go_ret2
  exact ⟨rfl, Below.drewN ((Below.refl _ _).alloc (Nat.le_refl _) _) _⟩

set_option maxRecDepth 100000 in
set_option maxHeartbeats 2000000 in
theorem refJoin_no6 (w : World) (y m d h mi s : Int) (hx : s < 0) (hd1 : 1 ≤ d) (hd2 : d ≤ Cal.dim y m) (t1 : 0 ≤ h) (t2 : h ≤ 23) (t3 : 0 ≤ mi) (t4 : mi ≤ 59) : Calls Try.prog 9 #[dv y m d h mi s] w fun e w' => e = .returned (.tuple #[.int .u64 0, .int .i64 1]) ∧ Below w.heap.size w w' := by
  unfold dv
  go_enter Try.func9, Try.ntmps9
  go_wp2_with fail
  go_quiet ((go_at_call 13; exact quiet_left (refDays_c _ _ _)))
  go_wp2_with fail
  go_ret2
  exact ⟨rfl, Below.drewN ((Below.refl _ _).alloc (Nat.le_refl _) _) _⟩

set_option maxRecDepth 100000 in
set_option maxHeartbeats 2000000 in
theorem refJoin_no7 (w : World) (y m d h mi s : Int) (hx : 59 < s) (hd1 : 1 ≤ d) (hd2 : d ≤ Cal.dim y m) (t1 : 0 ≤ h) (t2 : h ≤ 23) (t3 : 0 ≤ mi) (t4 : mi ≤ 59) (t5 : 0 ≤ s) : Calls Try.prog 9 #[dv y m d h mi s] w fun e w' => e = .returned (.tuple #[.int .u64 0, .int .i64 1]) ∧ Below w.heap.size w w' := by
  unfold dv
  go_enter Try.func9, Try.ntmps9
  go_wp2_with fail
  go_quiet ((go_at_call 13; exact quiet_left (refDays_c _ _ _)))
  go_wp2_with fail
  go_ret2
  exact ⟨rfl, Below.drewN ((Below.refl _ _).alloc (Nat.le_refl _) _) _⟩

theorem refJoin_c (w : World) (y m d h mi s : Int) : Calls Try.prog 9 #[dv y m d h mi s] w fun e w' => JoinAns y m d h mi s e ∧ Below w.heap.size w w' := by
  by_cases hok : okB y m d h mi s = true
  · obtain ⟨h1, h2⟩ := okB_iff.1 hok
    exact (refJoin_yes w y m d h mi s h1 h2).mono fun _ _ ⟨e, b⟩ => ⟨Or.inl ⟨hok, e⟩, b⟩
  · have hno : okB y m d h mi s = false := by simpa using hok
    have key : ∀ {e w'}, (e = Ending.returned (.tuple #[.int .u64 0, .int .i64 1]) ∧ Below w.heap.size w w') → JoinAns y m d h mi s e ∧ Below w.heap.size w w' := fun ⟨e, b⟩ => ⟨Or.inr ⟨hno, e⟩, b⟩
    have hn : ¬ (Cal.valid y m d ∧ Cal.vtime h mi s) := fun hh => hok (okB_iff.2 hh)
    unfold Cal.valid Cal.vtime at hn
    by_cases c0 : d < 1
    · exact (refJoin_no0 w y m d h mi s c0).mono fun _ _ x => key x
    by_cases c1 : Cal.dim y m < d
    · exact (refJoin_no1 w y m d h mi s c1 (by omega)).mono fun _ _ x => key x
    by_cases c2 : h < 0
    · exact (refJoin_no2 w y m d h mi s c2 (by omega) (by omega)).mono fun _ _ x => key x
    by_cases c3 : 23 < h
    · exact (refJoin_no3 w y m d h mi s c3 (by omega) (by omega) (by omega)).mono fun _ _ x => key x
    by_cases c4 : mi < 0
    · exact (refJoin_no4 w y m d h mi s c4 (by omega) (by omega) (by omega) (by omega)).mono fun _ _ x => key x
    by_cases c5 : 59 < mi
    · exact (refJoin_no5 w y m d h mi s c5 (by omega) (by omega) (by omega) (by omega) (by omega)).mono fun _ _ x => key x
    by_cases c6 : s < 0
    · exact (refJoin_no6 w y m d h mi s c6 (by omega) (by omega) (by omega) (by omega) (by omega) (by omega)).mono fun _ _ x => key x
    by_cases c7 : 59 < s
    · exact (refJoin_no7 w y m d h mi s c7 (by omega) (by omega) (by omega) (by omega) (by omega) (by omega) (by omega)).mono fun _ _ x => key x
    exact absurd (by omega) hn
theorem JoinAns.same {y m d h mi s : Int} {e e' : Ending} (h1 : JoinAns y m d h mi s e) (h2 : JoinAns y m d h mi s e') : e = e' := by
  rcases h1 with ⟨a, rfl⟩ | ⟨a, rfl⟩ <;> rcases h2 with ⟨b, rfl⟩ | ⟨b, rfl⟩
  · rfl
  · rw [a] at b; cases b
  · rw [a] at b; cases b
  · rfl
end Go.Proofs.Ythlggjchgngefaa
