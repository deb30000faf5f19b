/- ClockParse over a text as it comes in. -/
import Derived.Test.YthlggjchgngefaaParses
import Derived.Test.YthlggjchgngefaaLaw
import Derived.ChangeMaps5
namespace Go.Proofs.Ythlggjchgngefaa
open Go.ChangeShapes Go.WideShapes Go.ChangeAt Go.RowKit Go.ChangeMaps
theorem clockParse_w {H : Type} {enc : TypeId × Value → H} {W : World} {base : Nat} {v : Value} {d : DataW H} {ps : List MemPlace} (hv : Value.okWide Try.prog W .any base 9 v) (h : DataW.Trod enc Try.prog W 0 (fun _ => true) true 9 v d ps) :
    Calls Try.prog 4 #[v] W fun e w' => e = .returned (.bool true) ∧ Below W.heap.size W w' := by
  obtain ⟨s, rfl, _⟩ := open_string Try.underlying9 hv h
  exact parses_walk W s
end Go.Proofs.Ythlggjchgngefaa
