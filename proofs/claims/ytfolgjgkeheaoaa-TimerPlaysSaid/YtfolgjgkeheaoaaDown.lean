/- A timer goes down to its place. -/
import Derived.Test.YtfolgjgkeheaoaaTm
import Derived.Deep.LoopGhost
namespace Go.Proofs.Ytfolgjgkeheaoaa
open Go.RowKit Go.ChangeMaps

/-- c is i, and no child of i stands ahead of it; or c is the child that stands ahead of i and of its brother. -/
def First (n : Nat) (f : Nat → Ent) (i c : Nat) : Prop :=
  (c = i ∧ ∀ d, 0 < d → d < n → (d - 1) / 2 = i → lt (f d) (f i) = false) ∨
  (0 < c ∧ c < n ∧ (c - 1) / 2 = i ∧ lt (f c) (f i) = true ∧ ∀ d, 0 < d → d < n → (d - 1) / 2 = i → lt (f d) (f c) = false)

/-- What stands behind the children below m are looked at. -/
def Seen (n : Nat) (f : Nat → Ent) (i m c : Nat) : Prop :=
  c < n ∧ (c = i ∨ (2 * i + 1 ≤ c ∧ c < m)) ∧ lt (f i) (f c) = false ∧ (c = i ∨ lt (f c) (f i) = true) ∧ ∀ d, 2 * i + 1 ≤ d → d < m → lt (f d) (f c) = false

theorem seen_first {n i m c : Nat} {f : Nat → Ent} (h : Seen n f i m c) (hm : 2 * i + 2 < m ∨ n ≤ m) (hm' : m ≤ 2 * i + 3) : First n f i c := by
  obtain ⟨h1, h2, h3, h4, h5⟩ := h
  rcases h2 with e | ⟨e1, e2⟩
  · subst e
    exact Or.inl ⟨rfl, fun d d0 dn dp => h5 d (by omega) (by omega)⟩
  · refine Or.inr ⟨by omega, h1, by omega, ?_, fun d d0 dn dp => h5 d (by omega) (by omega)⟩
    rcases h4 with h4 | h4
    · omega
    · exact h4

set_option maxRecDepth 100000 in
set_option maxHeartbeats 2000000 in
theorem child_c {w : World} {t mb n : Nat} {sv : Value} {f : Nat → Ent} (h : Tm w t mb sv n f) {i : Nat} {x : Int} (hx : x = i) (hi : i < n) :
    Calls Try.prog 27 #[.pointer (some ⟨t, 0, none⟩), .int .i64 x] w fun e w' => ∃ c : Nat, e = .returned (.int .i64 c) ∧ First n f i c ∧ Below w.heap.size w w' := by
  subst hx
  have few := h.few
  obtain ⟨g0, cap, cur, hsv, hb0, q1, q2, q3, q4⟩ := h.pos (by omega)
  have hsv' : ∃ p, sv = .slice p n cap := ⟨_, hsv⟩
  clear hsv hb0 q1 q2 q3 q4
  obtain ⟨p, hsv⟩ := hsv'
  subst hsv
  have ht := h.blk.lt
  have h0 : w.cell? ⟨t, 0, none⟩ = some (.slice p n cap) := h.blk.cellv rfl
  have H := hid h; clear h
  go_enter Try.func27, Try.ntmps27
  go_wp2
  go_loopg [5, 6] 2 (fun g v m wr => ∃ (c : Nat), v = .int .i64 c ∧ m = .int .i64 ((2 * i + 3 - g : Nat) : Int) ∧ g ≤ 2 ∧ c ≤ 2 * i + 2 ∧ Hid (Seen n f i (2 * i + 3 - g) c) ∧ Hid (Below w.heap.size w wr))
  case atStart => exact ⟨i, rfl, by go_num, by omega, by omega, hid ⟨hi, Or.inl rfl, by rw [lt_no]; omega, Or.inl rfl, fun d d1 d2 => by omega⟩, hid (Below.refl _ _)⟩
  case round =>
    obtain ⟨c, hv, hm, hg, hc, S, B⟩ := hrel
    subst hv hm
    have h0' : wr.cell? ⟨t, 0, none⟩ = some (.slice p n cap) := (B.out.cell (by simpa using ht)).trans h0
    have ht' : t < wr.heap.size := Nat.lt_of_lt_of_le ht B.out.size
    generalize hmm : 2 * i + 3 - gk = m at *
    have hm1 : 2 * i + 1 ≤ m := by omega
    have hm2 : m ≤ 2 * i + 3 := by omega
    have hwm : Below w.heap.size w wr := B.out
    by_cases hk0 : m ≤ 2 * i + 2
    · by_cases hk1 : m < n
      · obtain ⟨s1, s2, s3, s4, s5⟩ := S.out
        have S' := hid (show 2 * i + 1 ≤ m ∧ m < 2 * i + 3 by omega)
        cases hl : lt (f m) (f c)
        · go_wp2_with (go_at_call 26; refine (less_c (H.out.below B.out) rfl rfl hk1 S.out.1).mono ?_; rintro e w1 ⟨rfl, hb⟩; rw [hl])
          go_roundg (gk - 1)
          case measure => omega
          case rel => exact ⟨c, rfl, by go_num, by omega, by omega, hid ⟨s1, by omega, s3, s4, fun d d1 d2 => by
            by_cases e : d = m
            · subst e; exact hl
            · exact s5 d d1 (by omega)⟩, hid (B.out.trans (hb.mono B.out.size))⟩
        · go_wp2_with (go_at_call 26; refine (less_c (H.out.below B.out) rfl rfl hk1 S.out.1).mono ?_; rintro e w1 ⟨rfl, hb⟩; rw [hl])
          go_roundg (gk - 1)
          case measure => omega
          case rel => exact ⟨m, rfl, by go_num, by omega, by omega, hid ⟨hk1, by omega, by rw [lt_no] at *; rw [lt_iff] at hl; omega, Or.inr (by rw [lt_no] at s3; rw [lt_iff] at *; omega), fun d d1 d2 => by
            by_cases e : d = m
            · subst e; rw [lt_no]; omega
            · have := s5 d d1 (by omega); rw [lt_no] at *; rw [lt_iff] at hl; omega⟩, hid (B.out.trans (hb.mono B.out.size))⟩
      · go_wp2
        go_ret
        exact ⟨c, rfl, seen_first S.out (by omega) hm2, B.out⟩
    · go_wp2
      go_ret
      exact ⟨c, rfl, seen_first S.out (by omega) hm2, B.out⟩
end Go.Proofs.Ytfolgjgkeheaoaa
