/- The wheel turns on: 'next'; the wheel is loaded: 'load'. -/
import Derived.Test.YtkehejkjifgieaaShaSpec
import Derived.Test.YtkehejkjifgieaaFn
namespace Go.Proofs.Ytkehejkjifgieaa
open Go.RowKit Go.ChangeMaps

/-- The wheel lies at block b ahead of step t. -/
def Wheel (w : World) (b : Nat) (B : Nat → W8) (t : Nat) : Prop := Fn w b 133 16 (fun i => .int .u32 (u (wheelAt B t i)))

set_option maxRecDepth 100000 in
set_option maxHeartbeats 1000000 in
theorem next_c {w : World} {b : Nat} {B : Nat → W8} {t : Nat} (h : Wheel w b B t) (ht : t < 64) :
    Calls Try.prog 82 #[.pointer (some ⟨b, 0, none⟩), .int .i64 t] w fun e w' => e = .returned (.int .u32 (u (sched B t))) ∧ Wheel w' b B (t + 1) ∧ Mod (fun k => k = b) w w' := by
  have hb := h.lt
  have H := hid h
  by_cases h16 : t < 16
  · have c0 : w.cell? ⟨b, t, none⟩ = some (.int .u32 (u (sched B t))) := by
      rw [sched_lo B h16, ← wheel_lo B (Nat.le_of_lt h16) h16]; exact h.cell h16
    have hm : (t : Int) % 16 = t := by omega
    clear h
    go_enter Try.func82, Try.ntmps82
    go_wp2
    go_ret
    refine ⟨rfl, ?_, Mod.refl _ _⟩
    exact H.out.congr (fun j hj => by rw [wheel_lo B (by omega) hj, wheel_lo B (by omega) hj])
  · have c1 : w.cell? ⟨b, (t + 1) % 16, none⟩ = some (.int .u32 (u (sched B (t - 15)))) := by
      have := h.cell (j := (t + 1) % 16) (by omega)
      rw [show (t + 1) % 16 = (t - 15) % 16 by omega, wheel_get B (by omega) (by omega) (by omega)] at this
      rw [show (t + 1) % 16 = (t - 15) % 16 by omega]; exact this
    have c2 : w.cell? ⟨b, (t + 14) % 16, none⟩ = some (.int .u32 (u (sched B (t - 2)))) := by
      have := h.cell (j := (t + 14) % 16) (by omega)
      rw [show (t + 14) % 16 = (t - 2) % 16 by omega, wheel_get B (by omega) (by omega) (by omega)] at this
      rw [show (t + 14) % 16 = (t - 2) % 16 by omega]; exact this
    have c3 : w.cell? ⟨b, (t + 9) % 16, none⟩ = some (.int .u32 (u (sched B (t - 7)))) := by
      have := h.cell (j := (t + 9) % 16) (by omega)
      rw [show (t + 9) % 16 = (t - 7) % 16 by omega, wheel_get B (by omega) (by omega) (by omega)] at this
      rw [show (t + 9) % 16 = (t - 7) % 16 by omega]; exact this
    have c4 : w.cell? ⟨b, t % 16, none⟩ = some (.int .u32 (u (sched B (t - 16)))) := by
      have := h.cell (j := t % 16) (by omega)
      rw [show t % 16 = (t - 16) % 16 by omega, wheel_get B (by omega) (by omega) (by omega)] at this
      rw [show t % 16 = (t - 16) % 16 by omega]; exact this
    have f0 : w.frozen? ⟨b, t % 16, none⟩ = false := h.frozen _
    clear h
    go_enter Try.func82, Try.ntmps82
    go_wp2
    go_region
    go_wp2_with (go_at_call 81; refine (rotl_c _ _ _ (by decide)).mono ?_; rintro e w' ⟨rfl, rfl⟩)
    simp only [u_sh3, u_sh10, u_xor]
    go_region
    go_wp2
    go_ret
    have x0 : rotr (sched B (t - 15)) 7 ^^^ rotr (sched B (t - 15)) 18 ^^^ sched B (t - 15) >>> 3 = sg0 (sched B (t - 15)) := rfl
    have x1 : rotr (sched B (t - 2)) 17 ^^^ rotr (sched B (t - 2)) 19 ^^^ sched B (t - 2) >>> 10 = sg1 (sched B (t - 2)) := rfl
    rw [x0, x1]
    have e : (u (sched B (t - 16)) + (u (sg0 (sched B (t - 15))) + u (sched B (t - 7)) + u (sg1 (sched B (t - 2))))) % 4294967296 = u (sched B t) := by
      rw [← sched_hi' B (t := t) (by omega), ← u_add, ← u_add, ← u_add]; omega
    rw [e]
    refine ⟨rfl, ?_, ((Mod.refl (fun k => k = b) w).setCell (p := ⟨b, t % 16, none⟩) (fun _ => rfl) _).drew.drew⟩
    refine ((H.out.set (t % 16) (.int .u32 (u (sched B t)))).of_block (w' := (w.setCell ⟨b, t % 16, none⟩ (.int .u32 (u (sched B t)))).drew.drew) rfl).congr (fun j hj => ?_)
    unfold set1
    rw [wheel_next B (by omega) hj]
    split
    · rfl
    · rfl
end Go.Proofs.Ytkehejkjifgieaa
