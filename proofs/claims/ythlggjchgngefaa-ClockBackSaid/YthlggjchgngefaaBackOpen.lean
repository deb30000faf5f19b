/- ClockBack over a time and a date as they come in. -/
import Derived.Test.YthlggjchgngefaaBack
import Derived.Test.YthlggjchgngefaaJoinsOpen
namespace Go.Proofs.Ythlggjchgngefaa
open Go.ChangeShapes Go.WideShapes Go.ChangeAt Go.RowKit
theorem clockBack_w {H : Type} {enc : TypeId × Value → H} {W : World} {base : Nat} (t : Int) (ht : (Lit.int .u64 t).wf = true) {v : Value} {d : DataW H} {ps : List MemPlace} (hv : Value.okWide Try.prog W .any base 23 v) (hd : DataW.Trod enc Try.prog W 0 (fun _ => true) true 23 v d ps) :
    Calls Try.prog 5 #[.int .u64 t, v] W fun e w' => e = .returned (.bool true) ∧ Below W.heap.size W w' := by
  obtain ⟨y, m, d, h, mi, s, rfl⟩ := date_open hv hd
  simp [Lit.wf, IntKind.min, IntKind.max, IntKind.signed, IntKind.bits] at ht
  exact back_walk W t y m d h mi s (by omega) (by omega)
end Go.Proofs.Ythlggjchgngefaa
