/- Acts as they come in. -/
import Derived.Test.YtdmlldhlfofegaaDoorActs
import Derived.Test.YtdmlldhlfofegaaDoorLaw
namespace Go.Proofs.YtdmlldhlfofegaaDoor
open Go.ChangeShapes Go.WideShapes Go.ChangeAt Go.RowKit

theorem acts_open {H : Type} {enc : TypeId × Value → H} {W : World} {base : Nat} {v : Value} {d : DataW H} {ps : List MemPlace} (hv : Value.okWide Tryd.prog W .any base 22 v) (h : DataW.Trod enc Tryd.prog W 0 (fun _ => true) true 22 v d ps) :
    ∃ p len cap, v = .slice p len cap ∧ len ≤ maxLen ∧ Acts W p len := by
  rcases slice_cells hv Tryd.underlying22 Tryd.underlying35 (by kernel_rfl) (by kernel_rfl) (by decide) h with ⟨p, cap, rfl⟩ | ⟨b, off, len, cap, h0, rfl, h1, h2, h3, h4⟩
  · exact ⟨p, 0, cap, rfl, Nat.zero_le _, fun i hi => absurd hi (by omega)⟩
  · refine ⟨_, len, cap, rfl, by omega, fun i hi => ?_⟩
    obtain ⟨x0, n0, y0, k0, l0⟩ := h4 i hi 0 _ rfl
    obtain ⟨x1, n1, y1, k1, l1⟩ := h4 i hi 1 _ rfl
    obtain ⟨x2, n2, y2, k2, l2⟩ := h4 i hi 2 _ rfl
    obtain ⟨x3, n3, y3, k3, l3⟩ := h4 i hi 3 _ rfl
    obtain ⟨z0, rfl, _⟩ := int_cell Tryd.underlying3 l0
    obtain ⟨z1, rfl, _⟩ := int_cell Tryd.underlying3 l1
    obtain ⟨z2, rfl, w2⟩ := int_cell Tryd.underlying33 l2
    simp [Lit.wf, IntKind.min, IntKind.max, IntKind.signed, IntKind.bits] at w2
    obtain ⟨a, rfl⟩ : ∃ a : Nat, z2 = a := ⟨z2.toNat, by omega⟩
    exact ⟨b, off, z0, z1, a, x3, rfl, h3, by simpa [Nat.add_assoc] using k0, by simpa [Nat.add_assoc] using k1, by simpa [Nat.add_assoc] using k2, by omega, by simpa [Nat.add_assoc] using k3⟩
end Go.Proofs.YtdmlldhlfofegaaDoor
