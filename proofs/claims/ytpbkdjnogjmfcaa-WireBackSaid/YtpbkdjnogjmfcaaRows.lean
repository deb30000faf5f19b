/-
  No cell of these rows narrows 'for every input' (looked for: loops, veiled, ifaces, maps, wideKeys, modest, calm, conditions, laid).
  DERIVED. THE GIVEN ROWS OF THIS SEAT. 4 by the template 'for every input the law returns true; each argument reads behind the call as it read before'; 0 by the template 'total and deterministic' (their statements: YtpbkdjnogjmfcaaTotals.lean).
  GIVEN WITH THE SEED: the statements are not yours to turn. If you find one false, say at which input.
  Laid BY PROGRAM, IN A SANDBOX (cutbox-rows.mjs): the forced cells as the released guide's own fill.sh prints them over the translation 613f88e0dc27cc20… (all of the seat's roots in one cut). By AI agents, Wed Nov 11 2026. No macro, syntax, notation, axiom, sorry.
-/
import Derived.Test.YtpbkdjnogjmfcaaChecked
import GoSem.Claim
import GoSem.ClaimJoined
import GoSem.ClaimMapViews
import Derived.JoinedTies
import Derived.KernelRfl
namespace Go.Proofs.Ytpbkdjnogjmfcaa
/- THE CELL 'sum', in the pinned program and in every row, IS THE sha256 OF THE DUMP (.gsa) THAT YtpbkdjnogjmfcaaProg.lean LOADS. Nothing in Lean hashes anything: it is a label: what it is worth is what the hold of that sum in a sandbox is worth. -/
noncomputable def Try.pinned : Pinned := { name := "ytpbkdjnogjmfcaa", sum := "613f88e0dc27cc20d8ae18683e62d9a72a5b47d595f0aa35bc72114dbc33110a", checked := Try.checked }
namespace Rows
def none {H : Type} : Left H := { results := [], args := [] }

/-- 'cauterylaw15.WireEncode': WHATEVER THE INPUT: true; the input reads as it did. -/
def wireEncodeSpec : ChangeSpec := { name := "wireEncode", fn := fun _ => fun
  | [d] => { results := [.lit (.bool true)], args := [d] }
  | _ => none }
def wireEncodeRow : OpenClaim := { program := "ytpbkdjnogjmfcaa", sum := "613f88e0dc27cc20d8ae18683e62d9a72a5b47d595f0aa35bc72114dbc33110a", func := "cautery/cauterylaw15.WireEncode", spec := "wireEncode", apart := false }
def WireEncodeSaid : Prop := wireEncodeRow.holds Try.pinned (OpenSpec.ofChange wireEncodeSpec)

/-- ITS FALSE NEIGHBOUR: 'it returns false'. Refute it at one input. -/
def wireEncodeWrong : ChangeSpec := { name := "wireEncode", fn := fun _ => fun
  | [d] => { results := [.lit (.bool false)], args := [d] }
  | _ => none }
def WireEncodeWrongFalsely : Prop := wireEncodeRow.holds Try.pinned (OpenSpec.ofChange wireEncodeWrong)

/-- 'cauterylaw15.WireDecode': WHATEVER THE INPUT: true; the input reads as it did. -/
def wireDecodeSpec : ChangeSpec := { name := "wireDecode", fn := fun _ => fun
  | [d] => { results := [.lit (.bool true)], args := [d] }
  | _ => none }
def wireDecodeRow : OpenClaim := { program := "ytpbkdjnogjmfcaa", sum := "613f88e0dc27cc20d8ae18683e62d9a72a5b47d595f0aa35bc72114dbc33110a", func := "cautery/cauterylaw15.WireDecode", spec := "wireDecode", apart := false }
def WireDecodeSaid : Prop := wireDecodeRow.holds Try.pinned (OpenSpec.ofChange wireDecodeSpec)

/-- ITS FALSE NEIGHBOUR: 'it returns false'. Refute it at one input. -/
def wireDecodeWrong : ChangeSpec := { name := "wireDecode", fn := fun _ => fun
  | [d] => { results := [.lit (.bool false)], args := [d] }
  | _ => none }
def WireDecodeWrongFalsely : Prop := wireDecodeRow.holds Try.pinned (OpenSpec.ofChange wireDecodeWrong)

/-- 'cauterylaw15.WireBack': WHATEVER THE INPUT: true; the input reads as it did. -/
def wireBackSpec : ChangeSpec := { name := "wireBack", fn := fun _ => fun
  | [d1, d2] => { results := [.lit (.bool true)], args := [d1, d2] }
  | _ => none }
def wireBackRow : OpenClaim := { program := "ytpbkdjnogjmfcaa", sum := "613f88e0dc27cc20d8ae18683e62d9a72a5b47d595f0aa35bc72114dbc33110a", func := "cautery/cauterylaw15.WireBack", spec := "wireBack", apart := false }
def WireBackSaid : Prop := wireBackRow.holds Try.pinned (OpenSpec.ofChange wireBackSpec)

/-- ITS FALSE NEIGHBOUR: 'it returns false'. Refute it at one input. -/
def wireBackWrong : ChangeSpec := { name := "wireBack", fn := fun _ => fun
  | [d1, d2] => { results := [.lit (.bool false)], args := [d1, d2] }
  | _ => none }
def WireBackWrongFalsely : Prop := wireBackRow.holds Try.pinned (OpenSpec.ofChange wireBackWrong)

/-- 'cauterylaw15.WireOnly': WHATEVER THE INPUT: true; the input reads as it did. -/
def wireOnlySpec : ChangeSpec := { name := "wireOnly", fn := fun _ => fun
  | [d] => { results := [.lit (.bool true)], args := [d] }
  | _ => none }
def wireOnlyRow : OpenClaim := { program := "ytpbkdjnogjmfcaa", sum := "613f88e0dc27cc20d8ae18683e62d9a72a5b47d595f0aa35bc72114dbc33110a", func := "cautery/cauterylaw15.WireOnly", spec := "wireOnly", apart := false }
def WireOnlySaid : Prop := wireOnlyRow.holds Try.pinned (OpenSpec.ofChange wireOnlySpec)

/-- ITS FALSE NEIGHBOUR: 'it returns false'. Refute it at one input. -/
def wireOnlyWrong : ChangeSpec := { name := "wireOnly", fn := fun _ => fun
  | [d] => { results := [.lit (.bool false)], args := [d] }
  | _ => none }
def WireOnlyWrongFalsely : Prop := wireOnlyRow.holds Try.pinned (OpenSpec.ofChange wireOnlyWrong)

/- THE SECOND FORM. 'bulk': how many values and letters a reading holds, each counted each time it is reached (what is shared counts as often as it is met; a slice's spare places count too). A statement '..UptoSaid' is the law's where the arguments, and the package variables that the reading takes, are together of bulk at most 1048576: NARROWER than '..Said'. Prove '..Said' where nothing that the law and all that it calls make is longer than what came in: it says more and counts as full. Else prove '..UptoSaid'. A law counts once. -/
mutual
def uptoBulk {H : Type} : DataW H → Nat
  | .lit (.string bytes) => bytes.length + 1
  | .lit _ => 1
  | .nil => 1
  | .ptr d => uptoBulk d + 1
  | .slice elems spare => uptoBulkAll elems + uptoBulkAll spare + 1
  | .agg parts => uptoBulkAll parts + 1
  | .iface _ d => uptoBulk d + 1
  | .map entries => uptoBulkEntries entries + 1
  | .held _ => 1
def uptoBulkAll {H : Type} : List (DataW H) → Nat
  | [] => 0
  | d :: r => uptoBulk d + uptoBulkAll r
def uptoBulkEntries {H : Type} : List (Lit × DataW H) → Nat
  | [] => 0
  | x :: r => uptoBulkEntry x + uptoBulkEntries r
def uptoBulkEntry {H : Type} : Lit × DataW H → Nat
  | (.string bytes, d) => bytes.length + uptoBulk d + 1
  | (_, d) => uptoBulk d + 1
 end
def uptoSmall : (H : Type) → List (DataW H) → Bool := fun _ ds => decide (uptoBulkAll ds ≤ 1048576)
def OpenSpec.upto (s : _root_.Go.ChangeSpec) : _root_.Go.OpenSpec := { _root_.Go.OpenSpec.ofChange s with cond := some uptoSmall }

/-- 'cauterylaw15.WireEncode', WHERE WHAT IT READS IS OF BULK AT MOST 1048576: true; the input reads as it did. -/
def wireEncodeUptoRow : OpenClaim := { program := "ytpbkdjnogjmfcaa", sum := "613f88e0dc27cc20d8ae18683e62d9a72a5b47d595f0aa35bc72114dbc33110a", func := "cautery/cauterylaw15.WireEncode", spec := "wireEncode", apart := false, narrowed := true }
def WireEncodeUptoSaid : Prop := wireEncodeUptoRow.holds Try.pinned (OpenSpec.upto wireEncodeSpec)

/-- 'cauterylaw15.WireDecode', WHERE WHAT IT READS IS OF BULK AT MOST 1048576: true; the input reads as it did. -/
def wireDecodeUptoRow : OpenClaim := { program := "ytpbkdjnogjmfcaa", sum := "613f88e0dc27cc20d8ae18683e62d9a72a5b47d595f0aa35bc72114dbc33110a", func := "cautery/cauterylaw15.WireDecode", spec := "wireDecode", apart := false, narrowed := true }
def WireDecodeUptoSaid : Prop := wireDecodeUptoRow.holds Try.pinned (OpenSpec.upto wireDecodeSpec)

/-- 'cauterylaw15.WireBack', WHERE WHAT IT READS IS OF BULK AT MOST 1048576: true; the input reads as it did. -/
def wireBackUptoRow : OpenClaim := { program := "ytpbkdjnogjmfcaa", sum := "613f88e0dc27cc20d8ae18683e62d9a72a5b47d595f0aa35bc72114dbc33110a", func := "cautery/cauterylaw15.WireBack", spec := "wireBack", apart := false, narrowed := true }
def WireBackUptoSaid : Prop := wireBackUptoRow.holds Try.pinned (OpenSpec.upto wireBackSpec)

/-- 'cauterylaw15.WireOnly', WHERE WHAT IT READS IS OF BULK AT MOST 1048576: true; the input reads as it did. -/
def wireOnlyUptoRow : OpenClaim := { program := "ytpbkdjnogjmfcaa", sum := "613f88e0dc27cc20d8ae18683e62d9a72a5b47d595f0aa35bc72114dbc33110a", func := "cautery/cauterylaw15.WireOnly", spec := "wireOnly", apart := false, narrowed := true }
def WireOnlyUptoSaid : Prop := wireOnlyUptoRow.holds Try.pinned (OpenSpec.upto wireOnlySpec)

end Rows
end Go.Proofs.Ytpbkdjnogjmfcaa
