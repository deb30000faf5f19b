/- Seconds as a date: the document. -/
import Derived.Test.YthlggjchgngefaaSplit
namespace Go.Proofs.Ythlggjchgngefaa
open Go.RowKit

set_option maxRecDepth 100000 in
set_option maxHeartbeats 4000000 in
theorem refSplit_c (w : World) (t : Int) (h0 : 0 ≤ t) (h1 : t ≤ 18446744073709551615) : Calls Try.prog 18 #[.int .u64 t] w fun e w' => SplitAns t e ∧ Below w.heap.size w w' := by
  obtain ⟨hs1, hs2⟩ := sec_in t
  go_enter Try.func18, Try.ntmps18
  go_wp2
  go_loop [4, 6, 7, 8] (fun v4 v6 _ _ => ∃ n : Nat, n ≤ 200 ∧ v6 = .int .i64 (2000 + (n : Int)) ∧ Cal.yd n ≤ t / 86400 ∧ v4 = .int .u64 (t / 86400 - Cal.yd n)) (fun _ v6 _ _ => (2200 - intOf v6).toNat)
  case atStart => exact ⟨0, by omega, rfl, by simp [Cal.yd]; omega, by simp [Cal.yd]⟩
  case round =>
    obtain ⟨n, hn, rfl, hle, rfl⟩ := hrel
    have b1 := (Cal.yd_bd n).1
    have b2 := (Cal.yd_bd n).2
    by_cases hn2 : n < 200
    · go_wp2
      go_loop [4, 7, 8] (fun v4 v7 _ => ∃ k : Nat, k ≤ 12 ∧ v7 = .int .i64 ((k : Int) + 1) ∧ Cal.yd n + Cal.md (2000 + n) k ≤ t / 86400 ∧ v4 = .int .u64 (t / 86400 - Cal.yd n - Cal.md (2000 + n) k)) (fun _ v7 _ => (13 - intOf v7).toNat)
      case atStart => exact ⟨0, by omega, rfl, by simp [Cal.md]; omega, by simp [Cal.md]⟩
      case round =>
        obtain ⟨k, hk, rfl, hle, rfl⟩ := hrel
        have b3 := (Cal.md_bd (2000 + n) k).1
        have b4 := (Cal.md_bd (2000 + n) k).2
        have b5 := (Cal.dim_range (2000 + n) (k + 1)).1
        have b6 := (Cal.dim_range (2000 + n) (k + 1)).2
        have es : Cal.md (2000 + n) (k + 1) = Cal.md (2000 + n) k + Cal.dim (2000 + n) (k + 1) := rfl
        have ES := hid es
        clear es
        by_cases hk2 : k < 12
        · by_cases hc : t / 86400 - Cal.yd n - Cal.md (2000 + n) k < Cal.dim (2000 + n) (k + 1)
          · have ht : t < 73049 * 86400 := by
              have h2 := Cal.yd_mono (a := n + 1) (b := 200) (by omega)
              rw [Cal.yd_200] at h2
              have h3 : Cal.yd (n + 1) = Cal.yd n + Cal.md (2000 + n) 12 := rfl
              have h4 := Cal.md_mono (2000 + n) (a := k + 1) (b := 12) (by omega)
              have := ES.out
              omega
            go_wp2_with (go_at_call 13; refine (refDays_c _ _ _).mono ?_; rintro e w' ⟨rfl, rfl⟩)
            refine bodyPost_ret (v := .tuple #[dv (2000 + n) (k + 1) (t / 86400 - Cal.yd n - Cal.md (2000 + n) k + 1) (t % 86400 / 3600) (t % 86400 / 60 % 60) (t % 86400 % 60), .int .i64 0]) (by simp [results, Try.results18, go_sem, dv]) rfl ⟨Or.inl ⟨ht, _, is_date hn2 hk2 hle (by have := ES.out; omega), rfl⟩, ?_⟩
            exact (Below.refl _ _).alloc (Nat.le_refl _) _
          · go_wp2_with (go_at_call 13; refine (refDays_c _ _ _).mono ?_; rintro e w' ⟨rfl, rfl⟩)
            go_round
            case rel => exact ⟨k + 1, by omega, by go_num, by have := ES.out; omega, by rw [ES.out]; congr 1; omega⟩
            case measure => simp [intOf]; omega
        · have hk3 : k = 12 := by omega
          subst hk3
          have h3 : Cal.yd (n + 1) = Cal.yd n + Cal.md (2000 + n) 12 := rfl
          have H3 := hid h3
          clear h3
          go_wp2
          go_round
          case rel => exact ⟨n + 1, by omega, by go_num, by rw [H3.out]; exact hle, by rw [H3.out]; congr 1; omega⟩
          case measure => simp [intOf]; omega
    · have hn3 : n = 200 := by omega
      subst hn3
      have hbig : 73049 * 86400 ≤ t := by rw [Cal.yd_200] at hle; omega
      go_wp2
      refine bodyPost_ret (v := .tuple #[dv 0 0 0 0 0 0, .int .i64 4]) (by simp [results, Try.results18, go_sem, dv]) rfl ⟨Or.inr ⟨hbig, rfl⟩, ?_⟩
      exact (Below.refl _ _).alloc (Nat.le_refl _) _
end Go.Proofs.Ythlggjchgngefaa
