/- A timer comes to its place. -/
import Derived.Test.YtfolgjgkeheaoaaUp
import Derived.Test.YtfolgjgkeheaoaaDown
namespace Go.Proofs.Ytfolgjgkeheaoaa
open Go.RowKit Go.ChangeMaps

theorem first_le {n i c : Nat} {f : Nat → Ent} (h : First n f i c) (hi : i < n) : i ≤ c ∧ c < n := by
  rcases h with ⟨h, _⟩ | ⟨h1, h2, h3, _⟩ <;> omega

set_option maxRecDepth 100000 in
set_option maxHeartbeats 2000000 in
theorem down_c {w : World} {t mb n : Nat} {sv : Value} {f : Nat → Ent} (h : Tm w t mb sv n f) {i : Nat} {x : Int} (hx : x = i) (hi : i < n) (hu : Dn n f i) :
    Calls Try.prog 24 #[.pointer (some ⟨t, 0, none⟩), .int .i64 x] w fun e w' => e = .returned (.tuple #[]) ∧ ∃ f', Tm w' t mb sv n f' ∧ Heap n f' ∧ (∀ p, In n f' p ↔ In n f p) ∧ Mod (Own sv mb) w w' := by
  subst hx
  have few := h.few
  have H := hid h; have HU := hid hu; clear h hu
  go_enter Try.func24, Try.ntmps24
  go_wp2_with (go_at_call 27; refine (child_c H.out rfl hi).mono ?_; rintro e w1 ⟨c1, rfl, F1, hb1⟩; have F1' := hid F1; clear F1)
  go_loopg [1, 4] (n - i) (fun g v u wr => ∃ (f' : Nat → Ent) (k c : Nat), v = .int .i64 k ∧ u = .int .i64 c ∧ g = n - k ∧ k < n ∧ Hid (First n f' k c) ∧ Hid (Tm wr t mb sv n f') ∧ Hid (Dn n f' k) ∧ Hid (∀ p, In n f' p ↔ In n f p) ∧ Hid (Mod (Own sv mb) w wr))
  case atStart => exact ⟨f, i, c1, rfl, rfl, rfl, hi, F1', hid (H.out.below hb1), HU, hid (fun p => Iff.rfl), hid (Mod.of_below hb1 _)⟩
  case round =>
    obtain ⟨f', k, c, hv, hu, hg, hk, F, T, U, I, M⟩ := hrel
    subst hv hu
    by_cases hk0 : c = k
    · subst hk0
      go_wp2
      go_end0
      refine ⟨rfl, f', T.out, dn_done U.out ?_, I.out, M.out⟩
      rcases F.out with h | h
      · exact h.2
      · omega
    · have hle := first_le F.out hk
      have hne : ¬ ((c : Int) = (k : Int)) := by omega
      obtain ⟨f1, f2, f3, f4, f5⟩ : 0 < c ∧ c < n ∧ (c - 1) / 2 = k ∧ lt (f' c) (f' k) = true ∧ Hid (∀ d, 0 < d → d < n → (d - 1) / 2 = k → lt (f' d) (f' c) = false) := by
        rcases F.out with h | h
        · exact absurd h.1 hk0
        · exact h
      have f3' := hid f3; have f4' := hid f4; clear f3 f4
      go_wp2_with first
        | (go_at_call 25; refine (swap_c T.out rfl rfl hk hle.2).mono ?_; rintro e w2 ⟨rfl, T2, M2⟩; have T2' := hid T2; have M2' := hid M2; clear T2 M2)
        | (go_at_call 27; refine (child_c T2'.out rfl hle.2).mono ?_; rintro e w3 ⟨c3, rfl, F3, hb3⟩; have F3' := hid F3; clear F3)
      go_roundg (n - c)
      case measure => omega
      case rel => exact ⟨_, c, c3, rfl, rfl, rfl, hle.2, F3', hid (T2'.out.below hb3), hid (dn_step U.out f1 f2 f3'.out f4'.out f5.out), hid (fun p => (in_sw hk f2 p).trans (I.out p)), hid ((M.out.trans M2'.out).trans (Mod.of_below hb3 _))⟩

set_option maxRecDepth 100000 in
set_option maxHeartbeats 2000000 in
theorem settle_c {w : World} {t mb n : Nat} {sv : Value} {f : Nat → Ent} (h : Tm w t mb sv n f) {i : Nat} {x : Int} (hx : x = i) (hi : i < n) (hu : Up n i f i) :
    Calls Try.prog 20 #[.pointer (some ⟨t, 0, none⟩), .int .i64 x] w fun e w' => e = .returned (.tuple #[]) ∧ ∃ f', Tm w' t mb sv n f' ∧ Heap n f' ∧ (∀ p, In n f' p ↔ In n f p) ∧ Mod (Own sv mb) w w' := by
  subst hx
  have few := h.few
  have H := hid h; have HU := hid hu; clear h hu
  go_enter Try.func20, Try.ntmps20
  go_wp2_with first
    | (go_at_call 23; refine (up_c H.out rfl hi HU.out).mono ?_; rintro e w1 ⟨rfl, f1, T1, D1, I1, M1⟩; have T1' := hid T1; have D1' := hid D1; have I1' := hid I1; have M1' := hid M1; clear T1 D1 I1 M1)
    | (go_at_call 24; refine (down_c T1'.out rfl hi D1'.out).mono ?_; rintro e w2 ⟨rfl, f2, T2, D2, I2, M2⟩; have T2' := hid T2; have D2' := hid D2; have I2' := hid I2; have M2' := hid M2; clear T2 D2 I2 M2)
  go_end0
  exact ⟨rfl, f2, T2'.out, D2'.out, fun p => (I2'.out p).trans (I1'.out p), M1'.out.trans M2'.out⟩
end Go.Proofs.Ytfolgjgkeheaoaa
