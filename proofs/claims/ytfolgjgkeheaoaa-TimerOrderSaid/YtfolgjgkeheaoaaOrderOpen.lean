/- TimerOrder over acts as they come in. -/
import Derived.Test.YtfolgjgkeheaoaaOrder
import Derived.Test.YtfolgjgkeheaoaaLaw
namespace Go.Proofs.Ytfolgjgkeheaoaa
open Go.ChangeShapes Go.WideShapes Go.ChangeAt Go.RowKit

theorem acts_open {H : Type} {enc : TypeId × Value → H} {W : World} {base : Nat} {v : Value} {d : DataW H} {ps : List MemPlace} (hv : Value.okWide Try.prog W .any base 31 v) (h : DataW.Trod enc Try.prog W 0 (fun _ => true) true 31 v d ps) :
    ∃ p len cap, v = .slice p len cap ∧ len ≤ maxLen ∧ Acts W p len := by
  rcases slice_cells hv Try.underlying31 Try.underlying33 (by kernel_rfl) (by kernel_rfl) (by decide) h with ⟨p, cap, rfl⟩ | ⟨b, off, len, cap, h0, rfl, h1, h2, h3, h4⟩
  · exact ⟨p, 0, cap, rfl, Nat.zero_le _, fun i hi => absurd hi (by omega)⟩
  · refine ⟨_, len, cap, rfl, by omega, fun i hi => ?_⟩
    obtain ⟨x, n, y, k1, k2⟩ := h4 i hi 1 _ rfl
    obtain ⟨x', n', y', k1', k2'⟩ := h4 i hi 2 _ rfl
    obtain ⟨z, rfl, _⟩ := int_cell Try.underlying22 k2
    obtain ⟨z', rfl, _⟩ := int_cell Try.underlying23 k2'
    exact ⟨b, off, z, z', rfl, h3, by simpa [Nat.add_assoc] using k1, by simpa [Nat.add_assoc] using k1'⟩
theorem timerOrder_w {H : Type} {enc : TypeId × Value → H} {W : World} {base : Nat} {v : Value} {d : DataW H} {ps : List MemPlace} (hv : Value.okWide Try.prog W .any base 31 v) (h : DataW.Trod enc Try.prog W 0 (fun _ => true) true 31 v d ps) (a1 : Int) (_ : (Lit.int .u64 a1).wf = true) :
    Calls Try.prog 4 #[v, .int .u64 a1] W fun e w' => e = .returned (.bool true) ∧ Below W.heap.size W w' := by
  obtain ⟨p, len, cap, rfl, h1, h2⟩ := acts_open hv h
  exact order_walk p len cap a1 W h1 h2
end Go.Proofs.Ytfolgjgkeheaoaa
