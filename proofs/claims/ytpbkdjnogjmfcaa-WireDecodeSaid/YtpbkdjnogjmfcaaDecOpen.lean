/- WireDecode over bytes as they come in. -/
import Derived.Test.YtpbkdjnogjmfcaaDecW
import Derived.Test.YtpbkdjnogjmfcaaBytesOpen
namespace Go.Proofs.Ytpbkdjnogjmfcaa
open Go.ChangeShapes Go.WideShapes Go.ChangeAt Go.RowKit Go.Deep

theorem wireDecode_w {H : Type} {enc : TypeId × Value → H} {W : World} {base : Nat} {v : Value} {d : DataW H} {ps : List MemPlace} (hv : Value.okWide Try.prog W .any base 28 v) (h : DataW.Trod enc Try.prog W 0 (fun _ => true) true 28 v d ps) :
    Calls Try.prog 4 #[v] W fun e w' => e = .returned (.bool true) ∧ Below W.heap.size W w' := by
  obtain ⟨p0, len0, cap0, rfl⟩ := okWide_slice Try.underlying28 hv
  obtain ⟨fuel, hf⟩ := h
  obtain ⟨xs, hb, hm⟩ := bytes_open (v := .slice p0 len0 cap0) hf
  exact decode_walk hb hm
end Go.Proofs.Ytpbkdjnogjmfcaa
