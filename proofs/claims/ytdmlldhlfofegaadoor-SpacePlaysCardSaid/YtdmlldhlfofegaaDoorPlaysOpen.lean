/- SpacePlays over acts as they come in. -/
import Derived.Test.YtdmlldhlfofegaaDoorPlays
namespace Go.Proofs.YtdmlldhlfofegaaDoor
open Go.ChangeShapes Go.WideShapes Go.ChangeAt Go.RowKit
theorem spacePlays_w {H : Type} {enc : TypeId × Value → H} {W : World} (T : Tab W) (a0 : Int) (_ : (Lit.int .i64 a0).wf = true) {base : Nat} {v : Value} {d : DataW H} {ps : List MemPlace} (hv : Value.okWide Tryd.prog W .any base 22 v) (h : DataW.Trod enc Tryd.prog W 0 (fun _ => true) true 22 v d ps) :
    Calls Tryd.prog 4 #[.int .i64 a0, v] W fun e w' => e = .returned (.bool true) ∧ Below W.heap.size W w' := by
  obtain ⟨p, len, cap, rfl, h1, h2⟩ := acts6_open hv h
  exact plays_walk T a0 p len cap h1 h2
end Go.Proofs.YtdmlldhlfofegaaDoor
