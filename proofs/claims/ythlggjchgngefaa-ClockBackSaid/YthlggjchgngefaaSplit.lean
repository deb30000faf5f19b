/- Seconds as a date: the program and the document. -/
import Derived.Test.YthlggjchgngefaaYear
namespace Go.Proofs.Ythlggjchgngefaa
open Go.RowKit

/-- A date and a time of it, as a value. -/
def dv (y m d h mi s : Int) : Value := .agg #[.int .i64 y, .int .i64 m, .int .i64 d, .int .i64 h, .int .i64 mi, .int .i64 s]
def IsDate (t : Int) (v : Value) : Prop := ∃ y m d : Int, Cal.valid y m d ∧ Cal.dn y m d = t / 86400 ∧ v = dv y m d (t % 86400 / 3600) (t % 86400 / 60 % 60) (t % 86400 % 60)
def SplitAns (t : Int) (e : Ending) : Prop := (t < 73049 * 86400 ∧ ∃ v, IsDate t v ∧ e = .returned (.tuple #[v, .int .i64 0])) ∨ (73049 * 86400 ≤ t ∧ e = .returned (.tuple #[dv 0 0 0 0 0 0, .int .i64 4]))
theorem IsDate.inj {t : Int} {v v' : Value} (h : IsDate t v) (h' : IsDate t v') : v = v' := by
  obtain ⟨y, m, d, h1, h2, rfl⟩ := h
  obtain ⟨y', m', d', h1', h2', rfl⟩ := h'
  obtain ⟨rfl, rfl, rfl⟩ := Cal.dn_inj h1 h1' (h2.trans h2'.symm)
  rfl

theorem is_date {t : Int} {n k : Nat} (hn : n < 200) (hk : k < 12) (h1 : Cal.yd n + Cal.md (2000 + n) k ≤ t / 86400) (h2 : t / 86400 < Cal.yd n + Cal.md (2000 + n) (k + 1)) :
    IsDate t (dv (2000 + n) (k + 1) (t / 86400 - Cal.yd n - Cal.md (2000 + n) k + 1) (t % 86400 / 3600) (t % 86400 / 60 % 60) (t % 86400 % 60)) := by
  have e : Cal.md (2000 + n) (k + 1) = Cal.md (2000 + n) k + Cal.dim (2000 + n) (k + 1) := rfl
  refine ⟨_, _, _, ⟨by omega, by omega⟩, ?_, rfl⟩
  unfold Cal.dn
  rw [show ((2000 : Int) + n - 2000).toNat = n by omega, show ((k : Int) + 1 - 1).toNat = k by omega]
  omega
theorem sec_in (t : Int) : 0 ≤ t % 86400 ∧ t % 86400 < 86400 := by omega
set_option maxRecDepth 100000 in
set_option maxHeartbeats 2000000 in
theorem split_c (w : World) (t : Int) (h0 : 0 ≤ t) (h1 : t ≤ 18446744073709551615) : Calls Try.prog 16 #[.int .u64 t] w fun e w' => SplitAns t e ∧ Below w.heap.size w w' := by
  have y200 : Cal.yd ((2200 : Int) - 2000).toNat = 73049 := Cal.yd_200
  by_cases hbig : 73049 * 86400 ≤ t
  · go_enter Try.func16, Try.ntmps16
    go_wp2_with (go_at_call 25; refine (yearDay_c _ _ (by omega) (by omega)).mono ?_; rintro e w' ⟨rfl, rfl⟩; rw [y200])
    refine bodyPost_ret (v := .tuple #[dv 0 0 0 0 0 0, .int .i64 4]) (by simp [results, Try.results16, go_sem, dv]) rfl ⟨Or.inr ⟨hbig, rfl⟩, ?_⟩
    exact (Below.refl _ _).alloc (Nat.le_refl _) _
  · have ht : t < 73049 * 86400 := by omega
    clear hbig
    go_enter Try.func16, Try.ntmps16
    go_wp2_with (first | (go_at_call 25; refine (yearDay_c _ _ (by omega) (by omega)).mono ?_; rintro e w' ⟨rfl, rfl⟩; rw [y200]) | (go_at_call 30; refine (yearOf_c _ _ (by omega) (by omega)).mono ?_; rintro e w' ⟨n, hn, hy1, hy2, rfl, rfl⟩))
    have hs := sec_in t
    obtain ⟨hs1, hs2⟩ := hs
    have e12 : Cal.yd (n + 1) = Cal.yd n + Cal.md (2000 + n) 12 := rfl
    have E12 := hid e12
    clear e12
    have b1 := (Cal.yd_bd n).1
    have b2 := (Cal.yd_bd n).2
    go_loop [6, 7] (fun v6 v7 => ∃ k : Nat, k < 12 ∧ v7 = .int .i64 ((k : Int) + 1) ∧ Cal.yd n + Cal.md (2000 + n) k ≤ t / 86400 ∧ v6 = .int .i64 (t / 86400 - Cal.yd n - Cal.md (2000 + n) k)) (fun _ v7 => (12 - intOf v7).toNat)
    case atStart => exact ⟨0, by omega, rfl, by simp [Cal.md]; omega, by simp [Cal.md]⟩
    case round =>
      obtain ⟨k, hk, rfl, hle, rfl⟩ := hrel
      have b3 := (Cal.md_bd (2000 + n) k).1
      have b4 := (Cal.md_bd (2000 + n) k).2
      have b5 := (Cal.dim_range (2000 + n) (k + 1)).1
      have b6 := (Cal.dim_range (2000 + n) (k + 1)).2
      have es : Cal.md (2000 + n) (k + 1) = Cal.md (2000 + n) k + Cal.dim (2000 + n) (k + 1) := rfl
      have ES := hid es
      clear es
      by_cases hc : Cal.dim (2000 + n) (k + 1) ≤ t / 86400 - Cal.yd n - Cal.md (2000 + n) k
      · have hk1 : k < 11 := by
          by_cases e : k = 11
          · have h3 : Cal.md (2000 + n) (11 + 1) = Cal.md (2000 + n) 12 := rfl
            have := E12.out; have := ES.out; subst e; omega
          · omega
        go_wp2_with (go_at_call 12; refine (days_c _ _ _).mono ?_; rintro e w' ⟨rfl, rfl⟩)
        go_round
        case rel => exact ⟨k + 1, by omega, by go_num, by have := ES.out; omega, by rw [ES.out]; congr 1; omega⟩
        case measure => simp [intOf]; omega
      · go_wp2_with (go_at_call 12; refine (days_c _ _ _).mono ?_; rintro e w' ⟨rfl, rfl⟩)
        refine bodyPost_ret (v := .tuple #[dv (2000 + n) (k + 1) (t / 86400 - Cal.yd n - Cal.md (2000 + n) k + 1) (t % 86400 / 3600) (t % 86400 / 60 % 60) (t % 86400 % 60), .int .i64 0]) (by simp [results, Try.results16, go_sem, dv]) rfl ⟨Or.inl ⟨ht, _, is_date hn hk hle (by have := ES.out; omega), rfl⟩, ?_⟩
        exact (Below.refl _ _).alloc (Nat.le_refl _) _
end Go.Proofs.Ythlggjchgngefaa
