/- TimerPlays over acts as they come in. -/
import Derived.Test.YtfolgjgkeheaoaaPlays
import Derived.Test.YtfolgjgkeheaoaaLaw
namespace Go.Proofs.Ytfolgjgkeheaoaa
open Go.ChangeShapes Go.WideShapes Go.ChangeAt Go.RowKit

theorem acts4_open {H : Type} {enc : TypeId × Value → H} {W : World} {base : Nat} {v : Value} {d : DataW H} {ps : List MemPlace} (hv : Value.okWide Try.prog W .any base 31 v) (h : DataW.Trod enc Try.prog W 0 (fun _ => true) true 31 v d ps) :
    ∃ p len cap, v = .slice p len cap ∧ len ≤ maxLen ∧ Acts4 W p len := by
  rcases slice_cells hv Try.underlying31 Try.underlying33 (by kernel_rfl) (by kernel_rfl) (by decide) h with ⟨p, cap, rfl⟩ | ⟨b, off, len, cap, h0, rfl, h1, h2, h3, h4⟩
  · exact ⟨p, 0, cap, rfl, Nat.zero_le _, fun i hi => absurd hi (by omega)⟩
  · refine ⟨_, len, cap, rfl, by omega, fun i hi => ?_⟩
    obtain ⟨x0, n0, y0, k0, l0⟩ := h4 i hi 0 _ rfl
    obtain ⟨x1, n1, y1, k1, l1⟩ := h4 i hi 1 _ rfl
    obtain ⟨x2, n2, y2, k2, l2⟩ := h4 i hi 2 _ rfl
    obtain ⟨x3, n3, y3, k3, l3⟩ := h4 i hi 3 _ rfl
    obtain ⟨z0, rfl, _⟩ := int_cell Try.underlying3 l0
    obtain ⟨z1, rfl, _⟩ := int_cell Try.underlying22 l1
    obtain ⟨z2, rfl, _⟩ := int_cell Try.underlying23 l2
    obtain ⟨z3, rfl, _⟩ := int_cell Try.underlying3 l3
    exact ⟨b, off, z0, z1, z2, z3, rfl, h3, by simpa [Nat.add_assoc] using k0, by simpa [Nat.add_assoc] using k1, by simpa [Nat.add_assoc] using k2, by simpa [Nat.add_assoc] using k3⟩
theorem timerPlays_w {H : Type} {enc : TypeId × Value → H} {W : World} {base : Nat} {v : Value} {d : DataW H} {ps : List MemPlace} (hv : Value.okWide Try.prog W .any base 31 v) (h : DataW.Trod enc Try.prog W 0 (fun _ => true) true 31 v d ps) :
    Calls Try.prog 5 #[v] W fun e w' => e = .returned (.bool true) ∧ Below W.heap.size W w' := by
  obtain ⟨p, len, cap, rfl, h1, h2⟩ := acts4_open hv h
  exact plays_walk p len cap W h1 h2
end Go.Proofs.Ytfolgjgkeheaoaa
