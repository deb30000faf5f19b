/- A timer goes up to its place. -/
import Derived.Test.YtfolgjgkeheaoaaTm
import Derived.Deep.LoopGhost
namespace Go.Proofs.Ytfolgjgkeheaoaa
open Go.RowKit Go.ChangeMaps

set_option maxRecDepth 100000 in
set_option maxHeartbeats 2000000 in
theorem up_c {w : World} {t mb n : Nat} {sv : Value} {f : Nat → Ent} (h : Tm w t mb sv n f) {i : Nat} {x : Int} (hx : x = i) (hi : i < n) (hu : Up n i f i) :
    Calls Try.prog 23 #[.pointer (some ⟨t, 0, none⟩), .int .i64 x] w fun e w' => e = .returned (.tuple #[]) ∧ ∃ f', Tm w' t mb sv n f' ∧ Dn n f' i ∧ (∀ p, In n f' p ↔ In n f p) ∧ Mod (Own sv mb) w w' := by
  subst hx
  have few := h.few
  have H := hid h; have HU := hid hu; clear h hu
  go_enter Try.func23, Try.ntmps23
  go_wp2
  go_loopg [1] i (fun g v wr => ∃ f' : Nat → Ent, v = .int .i64 g ∧ g < n ∧ Hid (Tm wr t mb sv n f') ∧ Hid (Up n i f' g) ∧ Hid (∀ p, In n f' p ↔ In n f p) ∧ Hid (Mod (Own sv mb) w wr))
  case atStart => exact ⟨f, rfl, hi, H, HU, hid (fun p => Iff.rfl), hid (Mod.refl _ _)⟩
  case round =>
    obtain ⟨f', hv, hg, T, U, I, M⟩ := hrel
    subst hv
    by_cases hk0 : gk = 0
    · go_wp2
      go_end0
      exact ⟨rfl, f', T.out, up_done U.out (Or.inl hk0), I.out, M.out⟩
    · have half := hid (show ((gk : Int) - 1) / 2 = (((gk - 1) / 2 : Nat) : Int) by omega)
      have half2 : (gk - 1) / 2 < n := by omega
      have hpos : 0 < gk := by omega
      by_cases hl : lt (f' gk) (f' ((gk - 1) / 2)) = true
      · go_wp2_with first
          | (go_at_call 26; refine (less_c (j := (gk - 1) / 2) T.out rfl half.out hg half2).mono ?_; rintro e w1 ⟨rfl, hb⟩; rw [hl])
          | (go_at_call 25; refine (swap_c (j := (gk - 1) / 2) (T.out.below hb) rfl half.out hg half2).mono ?_; rintro e w2 ⟨rfl, T2, M2⟩; have T2' := hid T2; have M2' := hid M2; clear T2 M2)
        go_roundg ((gk - 1) / 2)
        case measure => omega
        case rel => exact ⟨_, by rw [half.out], half2, T2', hid (up_step U.out hpos hg hl), hid (fun p => (in_sw hg half2 p).trans (I.out p)), hid ((M.out.trans (Mod.of_below hb _)).trans M2'.out)⟩
      · have hl' : lt (f' gk) (f' ((gk - 1) / 2)) = false := by simpa using hl
        go_wp2_with (go_at_call 26; refine (less_c (j := (gk - 1) / 2) T.out rfl half.out hg half2).mono ?_; rintro e w1 ⟨rfl, hb⟩; rw [hl'])
        go_end0
        exact ⟨rfl, f', T.out.below hb, up_done U.out (Or.inr hl'), I.out, M.out.trans (Mod.of_below hb _)⟩
end Go.Proofs.Ytfolgjgkeheaoaa
