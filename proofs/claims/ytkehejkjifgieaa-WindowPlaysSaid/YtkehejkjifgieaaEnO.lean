/- WindowPlays over acts as they come in. -/
import Derived.Test.YtkehejkjifgieaaEnA3
import Derived.Test.YtkehejkjifgieaaPartsOpen
import Derived.Test.YtkehejkjifgieaaLaw
namespace Go.Proofs.Ytkehejkjifgieaa
open Go.ChangeShapes Go.WideShapes Go.ChangeAt Go.RowKit Go.Deep

set_option maxRecDepth 100000 in
theorem acts6_open {H : Type} {enc : TypeId × Value → H} {W : World} {base : Nat} {v : Value} {d : DataW H} {ps : List MemPlace} (hv : Value.okWide Try.prog W .any base 38 v) (h : DataW.Trod enc Try.prog W 0 (fun _ => true) true 38 v d ps) :
    ∃ p len cap, v = .slice p len cap ∧ len ≤ maxLen ∧ Acts6 W p len := by
  rcases slice_cells hv Try.underlying38 Try.underlying52 (by kernel_rfl) (by kernel_rfl) (by decide) h with ⟨p, cap, rfl⟩ | ⟨b, off, len, cap, h0, rfl, h1, h2, h3, h4⟩
  · exact ⟨p, 0, cap, rfl, Nat.zero_le _, fun i hi => absurd hi (by omega)⟩
  · refine ⟨_, len, cap, rfl, by omega, fun i hi => ?_⟩
    obtain ⟨x0, n0, y0, k0, l0⟩ := h4 i hi 0 _ rfl
    obtain ⟨x1, n1, y1, k1, l1⟩ := h4 i hi 1 _ rfl
    obtain ⟨x2, n2, y2, k2, l2⟩ := h4 i hi 2 _ rfl
    obtain ⟨x3, n3, y3, k3, l3⟩ := h4 i hi 3 _ rfl
    obtain ⟨z0, rfl, _⟩ := int_cell Try.underlying3 l0
    obtain ⟨z1, rfl, _⟩ := int_cell Try.underlying3 l1
    obtain ⟨z2, rfl, w2⟩ := int_cell Try.underlying31 l2
    simp [Lit.wf, IntKind.min, IntKind.max, IntKind.signed, IntKind.bits] at w2
    obtain ⟨nw, rfl⟩ : ∃ nw : Nat, z2 = (nw : Int) := ⟨z2.toNat, by omega⟩
    obtain ⟨xs, hB, _⟩ := bytes_open l3
    obtain ⟨pB, cB, rfl, hq⟩ := hB
    exact ⟨b, off, z0, z1, nw, pB, cB, xs, rfl, h3, by simpa [Nat.add_assoc] using k0, by simpa [Nat.add_assoc] using k1, by simpa [Nat.add_assoc] using k2, by simpa [Nat.add_assoc] using k3, by omega, ⟨pB, cB, rfl, hq⟩⟩
set_option maxRecDepth 100000 in
theorem windowPlays_w {H : Type} {enc : TypeId × Value → H} {W : World} {base : Nat} {v : Value} {d : DataW H} {ps : List MemPlace} (hv : Value.okWide Try.prog W .any base 38 v) (h : DataW.Trod enc Try.prog W 0 (fun _ => true) true 38 v d ps) :
    Calls Try.prog 5 #[v] W fun e w' => e = .returned (.bool true) ∧ Below W.heap.size W w' := by
  obtain ⟨p, len, cap, rfl, h1, h2⟩ := acts6_open hv h
  exact plays_walk h1 h2
end Go.Proofs.Ytkehejkjifgieaa
