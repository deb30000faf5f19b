/- WindowAll over messages as they come in. -/
import Derived.Test.YtkehejkjifgieaaAllW
import Derived.Test.YtkehejkjifgieaaPartsOpen
namespace Go.Proofs.Ytkehejkjifgieaa
open Go.ChangeShapes Go.WideShapes Go.ChangeAt Go.RowKit Go.Deep

set_option maxRecDepth 100000 in
theorem windowAll_w {H : Type} {enc : TypeId × Value → H} {W : World} {base : Nat} {v : Value} {d : DataW H} {ps : List MemPlace} (hv : Value.okWide Try.prog W .any base 22 v) (h : DataW.Trod enc Try.prog W 0 (fun _ => true) true 22 v d ps) (a : Int) (wf : (Lit.int .u8 a).wf = true) :
    Calls Try.prog 3 #[v, .int .u8 a] W fun e w' => e = .returned (.bool true) ∧ Below W.heap.size W w' := by
  obtain ⟨p, n, cap, X, rfl, hn, hP⟩ := parts_open hv h
  simp [Lit.wf, IntKind.min, IntKind.max, IntKind.signed, IntKind.bits] at wf
  obtain ⟨x, rfl⟩ : ∃ x : Nat, a = (x : Int) := ⟨a.toNat, by omega⟩
  exact all_walk hn hP x (by omega)
end Go.Proofs.Ytkehejkjifgieaa
