/- WindowNil: the walk. -/
import Derived.Test.YtkehejkjifgieaaAliveW
import Derived.Test.YtkehejkjifgieaaLaw
namespace Go.Proofs.Ytkehejkjifgieaa
open Go.ChangeShapes Go.WideShapes Go.ChangeAt Go.RowKit Go.Deep Go.ChangeMaps

section
variable (w : World) (p : Option Addr) (n c : Nat)
set_option maxRecDepth 100000 in
theorem put_nil : Calls Try.prog 9 #[.pointer none, .slice p n c] w fun e w' => e = .returned (.int .i64 1) ∧ w' = w := by
  go_enter Try.func9, Try.ntmps9
  go_wp2
  go_ret
  exact ⟨rfl, rfl⟩
set_option maxRecDepth 100000 in
theorem out_nil (a : Int) : Calls Try.prog 10 #[.pointer none, .int .u64 a] w fun e w' => e = .returned (.slice none 0 0) ∧ w' = w := by
  go_enter Try.func10, Try.ntmps10
  go_wp2
  go_ret
  exact ⟨rfl, rfl⟩
set_option maxRecDepth 100000 in
theorem shear_nil : Calls Try.prog 12 #[.pointer none, .slice p n c] w fun e w' => e = .returned (.int .i64 1) ∧ w' = w := by
  go_enter Try.func12, Try.ntmps12
  go_wp2
  go_ret
  exact ⟨rfl, rfl⟩
set_option maxRecDepth 100000 in
theorem left_nil : Calls Try.prog 15 #[.pointer none] w fun e w' => e = .returned (.int .i64 0) ∧ w' = w := by
  go_enter Try.func15, Try.ntmps15
  go_wp2
  go_ret
  exact ⟨rfl, rfl⟩
set_option maxRecDepth 100000 in
theorem rhear_nil : Calls Try.prog 11 #[.pointer none, .slice p n c] w fun e w' => e = .returned (.tuple #[.slice none 0 0, .slice none 0 0, .int .i64 1]) ∧ w' = w := by
  go_enter Try.func11, Try.ntmps11
  go_wp2
  go_ret3
  exact ⟨rfl, rfl⟩
set_option maxRecDepth 100000 in
theorem rcame_nil : Calls Try.prog 14 #[.pointer none] w fun e w' => e = .returned (.int .i64 0) ∧ w' = w := by
  go_enter Try.func14, Try.ntmps14
  go_wp2
  go_ret
  exact ⟨rfl, rfl⟩
end
set_option maxRecDepth 100000 in
set_option maxHeartbeats 2000000 in
theorem windowNil_w {H : Type} {enc : TypeId × Value → H} {W : World} {base : Nat} {v : Value} {d : DataW H} {ps : List MemPlace} (hv : Value.okWide Try.prog W .any base 29 v) (_ : DataW.Trod enc Try.prog W 0 (fun _ => true) true 29 v d ps) (a : Int) (_ : (Lit.int .u64 a).wf = true) :
    Calls Try.prog 4 #[v, .int .u64 a] W fun e w' => e = .returned (.bool true) ∧ Below W.heap.size W w' := by
  obtain ⟨p, n, c, rfl⟩ := okWide_slice Try.underlying29 hv
  go_enter Try.func4, Try.ntmps4
  go_wp2_with (first
    | (go_at_call 11; refine (rhear_nil _ p n c).mono ?_; rintro e w1 ⟨rfl, e1⟩; subst e1)
    | (go_at_call 13; refine (alive_c _).mono ?_; rintro e w2 ⟨rfl, hb2⟩; have B2 := hid hb2; clear hb2)
    | (go_at_call 9; refine (put_nil _ p n c).mono ?_; rintro e w1 ⟨rfl, e1⟩; subst e1)
    | (go_at_call 10; refine (out_nil _ a).mono ?_; rintro e w1 ⟨rfl, e1⟩; subst e1)
    | (go_at_call 12; refine (shear_nil _ p n c).mono ?_; rintro e w1 ⟨rfl, e1⟩; subst e1)
    | (go_at_call 15; refine (left_nil _).mono ?_; rintro e w1 ⟨rfl, e1⟩; subst e1)
    | (go_at_call 14; refine (rcame_nil _).mono ?_; rintro e w1 ⟨rfl, e1⟩; subst e1))
  go_ret
  exact ⟨rfl, B2.out⟩
end Go.Proofs.Ytkehejkjifgieaa
