/- WireBack over a stream as it comes in. -/
import Derived.Test.YtpbkdjnogjmfcaaBackW
import Derived.Test.YtpbkdjnogjmfcaaStrmOpen
namespace Go.Proofs.Ytpbkdjnogjmfcaa
open Go.ChangeShapes Go.WideShapes Go.ChangeAt Go.RowKit Go.Deep

theorem wireBack_w {H : Type} {enc : TypeId × Value → H} {W : World} {base : Nat} {v : Value} {d : DataW H} {ps : List MemPlace} (hv : Value.okWide Try.prog W .any base 25 v) (h : DataW.Trod enc Try.prog W 0 (fun _ => true) true 25 v d ps) (a : Int) (wf : (Lit.int .i64 a).wf = true) :
    Calls Try.prog 5 #[v, .int .i64 a] W fun e w' => e = .returned (.bool true) ∧ Below W.heap.size W w' := by
  obtain ⟨s, cv, rfl, hC, hb, hg, _⟩ := strm_open hv h
  exact back_walk a wf rfl hC hb hg
end Go.Proofs.Ytpbkdjnogjmfcaa
