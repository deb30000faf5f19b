/- The walk of SpaceNil. -/
import Derived.Test.YtdmlldhlfofegaaDoorAlive
namespace Go.Proofs.YtdmlldhlfofegaaDoor
open Go.RowKit

set_option maxRecDepth 100000 in
set_option maxHeartbeats 2000000 in
theorem nil_walk {w : World} (T : Tab w) (n at_ : Int) (h0 : 0 ≤ at_) (h1 : at_ ≤ 4294967295) : Calls Tryd.prog 5 #[.int .i64 n, .int .u32 at_] w fun e w' => e = .returned (.bool true) ∧ Below w.heap.size w w' := by
  have hT0 := T.lt
  have LA := hid ((Below.refl w.heap.size w).alloc (Nat.le_refl _) (.cells #[.int .u32 at_] 33))
  have TA := hid (T.below LA.out hT0)
  clear T
  go_enter Tryd.func5, Tryd.ntmps5
  go_wp2_with first
    | (go_at_call 12; refine (take_nil _ _).mono ?_; rintro e w' ⟨rfl, rfl⟩)
    | (go_at_call 19; refine (keep_nil _ _).mono ?_; rintro e w' ⟨rfl, rfl⟩)
    | (go_at_call 14; refine (give_nil _ _ h0 h1).mono ?_; rintro e w' ⟨rfl, rfl⟩)
    | (go_at_call 13; refine (used_nil _ _).mono ?_; rintro e w' ⟨rfl, rfl⟩)
    | (go_at_call 11; refine (free_nil _).mono ?_; rintro e w' ⟨rfl, rfl⟩)
    | (go_at_call 25; refine (len_nil _).mono ?_; rintro e w' ⟨rfl, rfl⟩)
    | (go_at_call 16; refine (bytes_nil _).mono ?_; rintro e w' ⟨rfl, rfl⟩)
    | (go_at_call 10; refine (copy_nil _).mono ?_; rintro e w' ⟨rfl, rfl⟩)
    | (go_at_call 9; refine (alive_c TA.out).mono ?_; rintro e w2 ⟨rfl, Lx⟩; have L2 := hid (LA.out.trans (Lx.mono LA.out.size)); clear Lx)
  go_ret
  exact ⟨rfl, L2.out⟩
theorem spaceNil_w {w : World} (T : Tab w) (a0 : Int) (_ : (Lit.int .i64 a0).wf = true) (a1 : Int) (w1 : (Lit.int .u32 a1).wf = true) :
    Calls Tryd.prog 5 #[.int .i64 a0, .int .u32 a1] w fun e w' => e = .returned (.bool true) ∧ Below w.heap.size w w' := by
  simp [Lit.wf, IntKind.min, IntKind.max, IntKind.signed, IntKind.bits] at w1
  exact nil_walk T a0 a1 (by omega) (by omega)
end Go.Proofs.YtdmlldhlfofegaaDoor
