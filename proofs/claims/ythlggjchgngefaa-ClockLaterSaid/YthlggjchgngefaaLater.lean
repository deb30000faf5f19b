/- The walk of ClockLater. -/
import Derived.Test.YthlggjchgngefaaLess
import Derived.Test.YthlggjchgngefaaBack
namespace Go.Proofs.Ythlggjchgngefaa
open Go.RowKit

set_option maxRecDepth 100000 in
set_option maxHeartbeats 8000000 in
theorem later_walk (w : World) (a b : Int) (h0 : 0 ≤ a) (h1 : a ≤ 18446744073709551615) (k0 : 0 ≤ b) (k1 : b ≤ 18446744073709551615) : Calls Try.prog 7 #[.int .u64 a, .int .u64 b] w fun e w' => e = .returned (.bool true) ∧ Below w.heap.size w w' := by
  go_enter Try.func7, Try.ntmps7
  go_wp2_with fail
  have q0 : 0 ≤ a % 6311433600 ∧ a % 6311433600 < 6311433600 := by omega
  have q1 : 0 ≤ b % 6311433600 ∧ b % 6311433600 < 6311433600 := by omega
  generalize a % 6311433600 = A at *
  generalize b % 6311433600 = C at *
  obtain ⟨a0, a1⟩ := q0
  obtain ⟨b0, b1⟩ := q1
  refine (text_c _ _ a0 (by omega)).mono ?_
  rintro e w1 ⟨hA, hb1⟩
  obtain ⟨y, m, d, h, mi, s, hD, rfl⟩ := hA.yes (by omega)
  have HD := hid hD
  have L1 := hid hb1
  clear hA hD hb1
  unfold str
  go_wp2_with fail
  refine (text_c _ _ b0 (by omega)).mono ?_
  rintro e w2 ⟨hA, hb2⟩
  obtain ⟨y', m', d', h', mi', s', hD, rfl⟩ := hA.yes (by omega)
  have HE := hid hD
  have L2 := hid (Below.step L1.out hb2)
  clear hA hD hb2
  unfold str
  obtain ⟨S, hS⟩ : ∃ S : ByteArray, S = ⟨(text y m d h mi s).toArray⟩ := ⟨_, rfl⟩
  obtain ⟨T, hT⟩ : ∃ T : ByteArray, T = ⟨(text y' m' d' h' mi' s').toArray⟩ := ⟨_, rfl⟩
  have hl : Op.bytesLess S.toList T.toList = decide (A < C) := by
    have := less_text HD.out HE.out
    rw [ByteArray.toList_eq, ByteArray.toList_eq, hS, hT]
    by_cases hlt : A < C
    · rw [decide_eq_true hlt]; exact this.2 hlt
    · rw [decide_eq_false hlt]
      cases hx : Op.bytesLess (text y m d h mi s).toArray.toList (text y' m' d' h' mi' s').toArray.toList with
      | false => rfl
      | true => exact absurd (this.1 hx) hlt
  have he : (S.toList == T.toList) = (A == C) := by
    have h1 := less_text HD.out HE.out
    have h2 := less_text HE.out HD.out
    rw [ByteArray.toList_eq, ByteArray.toList_eq, hS, hT]
    by_cases heq : A = C
    · have hE' := HE.out
      rw [← heq] at hE'
      obtain ⟨rfl, rfl, rfl, rfl, rfl, rfl⟩ := HD.out.inj hE'
      rw [heq]
      simp
    · have : (text y m d h mi s) ≠ (text y' m' d' h' mi' s') := fun hx => by
        rw [hx, less_self] at h1
        rw [hx, less_self] at h2
        simp at h1 h2
        omega
      rw [beq_eq_false_iff_ne.2 heq]
      simpa using this
  rw [← hS, ← hT]
  clear hS hT
  have w0 : (wday (A + 86400) == (wday A + 1) % 7) = true := beq_iff_eq.2 (by unfold wday; omega)
  have w1' : (weekN (A + 604800) == weekN A + 1) = true := beq_iff_eq.2 (by unfold weekN; omega)
  have w2' : 0 ≤ wday A := by unfold wday; omega
  have w3' : wday A < 7 := by unfold wday; omega
  have w4' : 0 ≤ weekN A := by unfold weekN; omega
  have w5' : weekN A ≤ 100000 := by unfold weekN; omega
  rcases Int.lt_trichotomy A C with hc | hc | hc
  · rw [decide_eq_true hc] at hl
    rw [beq_eq_false_iff_ne.2 (by omega : A ≠ C)] at he
    have hec : (A == C) = false := beq_eq_false_iff_ne.2 (by omega)
    go_wp2_with (first | (go_at_call 11; refine (alive_c _).mono ?_; rintro e w3 ⟨rfl, hb3⟩; have L3 := hid (Below.step L2.out hb3); clear hb3) | (go_at_call 20; refine (weekday_c _ _ (by omega) (by omega)).mono ?_; rintro e w8 ⟨rfl, rfl⟩) | (go_at_call 22; refine (week_c _ _ (by omega) (by omega)).mono ?_; rintro e w8 ⟨rfl, rfl⟩))
    go_ret
    exact ⟨rfl, L3.out⟩
  · rw [decide_eq_false (by omega)] at hl
    rw [beq_iff_eq.2 hc] at he
    have hec : (A == C) = true := beq_iff_eq.2 hc
    have hlt : decide (A < C) = false := decide_eq_false (by omega)
    clear hc
    go_wp2_with (first | (go_at_call 11; refine (alive_c _).mono ?_; rintro e w3 ⟨rfl, hb3⟩; have L3 := hid (Below.step L2.out hb3); clear hb3) | (go_at_call 20; refine (weekday_c _ _ (by omega) (by omega)).mono ?_; rintro e w8 ⟨rfl, rfl⟩) | (go_at_call 22; refine (week_c _ _ (by omega) (by omega)).mono ?_; rintro e w8 ⟨rfl, rfl⟩))
    go_ret
    exact ⟨rfl, L3.out⟩
  · rw [decide_eq_false (by omega)] at hl
    rw [beq_eq_false_iff_ne.2 (by omega : A ≠ C)] at he
    have hec : (A == C) = false := beq_eq_false_iff_ne.2 (by omega)
    have hlt : decide (A < C) = false := decide_eq_false (by omega)
    go_wp2_with (first | (go_at_call 11; refine (alive_c _).mono ?_; rintro e w3 ⟨rfl, hb3⟩; have L3 := hid (Below.step L2.out hb3); clear hb3) | (go_at_call 20; refine (weekday_c _ _ (by omega) (by omega)).mono ?_; rintro e w8 ⟨rfl, rfl⟩) | (go_at_call 22; refine (week_c _ _ (by omega) (by omega)).mono ?_; rintro e w8 ⟨rfl, rfl⟩))
    go_ret
    exact ⟨rfl, L3.out⟩
theorem clockLater_w {W : World} (a : Int) (ha : (Lit.int .u64 a).wf = true) (b : Int) (hb : (Lit.int .u64 b).wf = true) : Calls Try.prog 7 #[.int .u64 a, .int .u64 b] W fun e w' => e = .returned (.bool true) ∧ Below W.heap.size W w' := by
  simp [Lit.wf, IntKind.min, IntKind.max, IntKind.signed, IntKind.bits] at ha hb
  exact later_walk W a b (by omega) (by omega) (by omega) (by omega)
end Go.Proofs.Ythlggjchgngefaa
