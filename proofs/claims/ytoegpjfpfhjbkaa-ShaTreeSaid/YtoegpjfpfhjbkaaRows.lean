/-
  No cell of these rows narrows 'for every input' (looked for: loops, veiled, ifaces, maps, wideKeys, modest, calm, conditions, laid).
  DERIVED. THE GIVEN ROWS OF THIS SEAT. 6 by the template 'for every input the law returns true; each argument reads behind the call as it read before'; 0 by the template 'total and deterministic' (their statements: YtoegpjfpfhjbkaaTotals.lean).
  GIVEN WITH THE SEED: the statements are not yours to turn. If you find one false, say at which input.
  Laid BY PROGRAM, IN A SANDBOX (cutbox-rows.mjs): the forced cells as the released guide's own fill.sh prints them over the translation 5eb34931cfcb4c60… (all of the seat's roots in one cut). By AI agents, Wed Nov 11 2026. No macro, syntax, notation, axiom, sorry.
-/
import Derived.Test.YtoegpjfpfhjbkaaChecked
import GoSem.Claim
import GoSem.ClaimJoined
import GoSem.ClaimMapViews
import Derived.JoinedTies
import Derived.KernelRfl
namespace Go.Proofs.Ytoegpjfpfhjbkaa
/- THE CELL 'sum', in the pinned program and in every row, IS THE sha256 OF THE DUMP (.gsa) THAT YtoegpjfpfhjbkaaProg.lean LOADS. Nothing in Lean hashes anything: it is a label: what it is worth is what the hold of that sum in a sandbox is worth. -/
noncomputable def Try.pinned : Pinned := { name := "ytoegpjfpfhjbkaa", sum := "5eb34931cfcb4c60cf5c593f7ff6d2a6f16765f43e5ef9af00bad18941b639e7", checked := Try.checked }
namespace Rows
def none {H : Type} : Left H := { results := [], args := [] }

/-- 'cauterylaw02.ShaSum': WHATEVER THE INPUT: true; the input reads as it did. -/
def shaSumSpec : ChangeSpec := { name := "shaSum", fn := fun _ => fun
  | [d1, d2] => { results := [.lit (.bool true)], args := [d1, d2] }
  | _ => none }
def shaSumRow : OpenClaim := { program := "ytoegpjfpfhjbkaa", sum := "5eb34931cfcb4c60cf5c593f7ff6d2a6f16765f43e5ef9af00bad18941b639e7", func := "cautery/cauterylaw02.ShaSum", spec := "shaSum", apart := false }
def ShaSumSaid : Prop := shaSumRow.holds Try.pinned (OpenSpec.ofChange shaSumSpec)

/-- ITS FALSE NEIGHBOUR: 'it returns false'. Refute it at one input. -/
def shaSumWrong : ChangeSpec := { name := "shaSum", fn := fun _ => fun
  | [d1, d2] => { results := [.lit (.bool false)], args := [d1, d2] }
  | _ => none }
def ShaSumWrongFalsely : Prop := shaSumRow.holds Try.pinned (OpenSpec.ofChange shaSumWrong)

/-- 'cauterylaw02.ShaPieces': WHATEVER THE INPUT: true; the input reads as it did. -/
def shaPiecesSpec : ChangeSpec := { name := "shaPieces", fn := fun _ => fun
  | [d] => { results := [.lit (.bool true)], args := [d] }
  | _ => none }
def shaPiecesRow : OpenClaim := { program := "ytoegpjfpfhjbkaa", sum := "5eb34931cfcb4c60cf5c593f7ff6d2a6f16765f43e5ef9af00bad18941b639e7", func := "cautery/cauterylaw02.ShaPieces", spec := "shaPieces", apart := false }
def ShaPiecesSaid : Prop := shaPiecesRow.holds Try.pinned (OpenSpec.ofChange shaPiecesSpec)

/-- ITS FALSE NEIGHBOUR: 'it returns false'. Refute it at one input. -/
def shaPiecesWrong : ChangeSpec := { name := "shaPieces", fn := fun _ => fun
  | [d] => { results := [.lit (.bool false)], args := [d] }
  | _ => none }
def ShaPiecesWrongFalsely : Prop := shaPiecesRow.holds Try.pinned (OpenSpec.ofChange shaPiecesWrong)

/-- 'cauterylaw02.ShaLong': WHATEVER THE INPUT: true; the input reads as it did. -/
def shaLongSpec : ChangeSpec := { name := "shaLong", fn := fun _ => fun
  | [d1, d2] => { results := [.lit (.bool true)], args := [d1, d2] }
  | _ => none }
def shaLongRow : OpenClaim := { program := "ytoegpjfpfhjbkaa", sum := "5eb34931cfcb4c60cf5c593f7ff6d2a6f16765f43e5ef9af00bad18941b639e7", func := "cautery/cauterylaw02.ShaLong", spec := "shaLong", apart := false }
def ShaLongSaid : Prop := shaLongRow.holds Try.pinned (OpenSpec.ofChange shaLongSpec)

/-- ITS FALSE NEIGHBOUR: 'it returns false'. Refute it at one input. -/
def shaLongWrong : ChangeSpec := { name := "shaLong", fn := fun _ => fun
  | [d1, d2] => { results := [.lit (.bool false)], args := [d1, d2] }
  | _ => none }
def ShaLongWrongFalsely : Prop := shaLongRow.holds Try.pinned (OpenSpec.ofChange shaLongWrong)

/-- 'cauterylaw02.ShaRoots': WHATEVER THE INPUT: true; the input reads as it did. -/
def shaRootsSpec : ChangeSpec := { name := "shaRoots", fn := fun _ => fun
  | [] => { results := [.lit (.bool true)], args := [] }
  | _ => none }
def shaRootsRow : OpenClaim := { program := "ytoegpjfpfhjbkaa", sum := "5eb34931cfcb4c60cf5c593f7ff6d2a6f16765f43e5ef9af00bad18941b639e7", func := "cautery/cauterylaw02.ShaRoots", spec := "shaRoots", apart := false }
def ShaRootsSaid : Prop := shaRootsRow.holds Try.pinned (OpenSpec.ofChange shaRootsSpec)

/-- ITS FALSE NEIGHBOUR: 'it returns false'. Refute it at one input. -/
def shaRootsWrong : ChangeSpec := { name := "shaRoots", fn := fun _ => fun
  | [] => { results := [.lit (.bool false)], args := [] }
  | _ => none }
def ShaRootsWrongFalsely : Prop := shaRootsRow.holds Try.pinned (OpenSpec.ofChange shaRootsWrong)

/-- 'cauterylaw02.ShaTree': WHATEVER THE INPUT: true; the input reads as it did. -/
def shaTreeSpec : ChangeSpec := { name := "shaTree", fn := fun _ => fun
  | [d] => { results := [.lit (.bool true)], args := [d] }
  | _ => none }
def shaTreeRow : OpenClaim := { program := "ytoegpjfpfhjbkaa", sum := "5eb34931cfcb4c60cf5c593f7ff6d2a6f16765f43e5ef9af00bad18941b639e7", func := "cautery/cauterylaw02.ShaTree", spec := "shaTree", recurses := true, apart := false }
def ShaTreeSaid : Prop := shaTreeRow.holds Try.pinned (OpenSpec.ofChange shaTreeSpec)

/-- ITS FALSE NEIGHBOUR: 'it returns false'. Refute it at one input. -/
def shaTreeWrong : ChangeSpec := { name := "shaTree", fn := fun _ => fun
  | [d] => { results := [.lit (.bool false)], args := [d] }
  | _ => none }
def ShaTreeWrongFalsely : Prop := shaTreeRow.holds Try.pinned (OpenSpec.ofChange shaTreeWrong)

/-- 'cauterylaw02.ShaNil': WHATEVER THE INPUT: true; the input reads as it did. -/
def shaNilSpec : ChangeSpec := { name := "shaNil", fn := fun _ => fun
  | [d] => { results := [.lit (.bool true)], args := [d] }
  | _ => none }
def shaNilRow : OpenClaim := { program := "ytoegpjfpfhjbkaa", sum := "5eb34931cfcb4c60cf5c593f7ff6d2a6f16765f43e5ef9af00bad18941b639e7", func := "cautery/cauterylaw02.ShaNil", spec := "shaNil", recurses := true, apart := false }
def ShaNilSaid : Prop := shaNilRow.holds Try.pinned (OpenSpec.ofChange shaNilSpec)

/-- ITS FALSE NEIGHBOUR: 'it returns false'. Refute it at one input. -/
def shaNilWrong : ChangeSpec := { name := "shaNil", fn := fun _ => fun
  | [d] => { results := [.lit (.bool false)], args := [d] }
  | _ => none }
def ShaNilWrongFalsely : Prop := shaNilRow.holds Try.pinned (OpenSpec.ofChange shaNilWrong)

/- THE SECOND FORM. 'bulk': how many values and letters a reading holds, each counted each time it is reached (what is shared counts as often as it is met; a slice's spare places count too). A statement '..UptoSaid' is the law's where the arguments, and the package variables that the reading takes, are together of bulk at most 1048576: NARROWER than '..Said'. Prove '..Said' where nothing that the law and all that it calls make is longer than what came in: it says more and counts as full. Else prove '..UptoSaid'. A law counts once. -/
mutual
def uptoBulk {H : Type} : DataW H → Nat
  | .lit (.string bytes) => bytes.length + 1
  | .lit _ => 1
  | .nil => 1
  | .ptr d => uptoBulk d + 1
  | .slice elems spare => uptoBulkAll elems + uptoBulkAll spare + 1
  | .agg parts => uptoBulkAll parts + 1
  | .iface _ d => uptoBulk d + 1
  | .map entries => uptoBulkEntries entries + 1
  | .held _ => 1
def uptoBulkAll {H : Type} : List (DataW H) → Nat
  | [] => 0
  | d :: r => uptoBulk d + uptoBulkAll r
def uptoBulkEntries {H : Type} : List (Lit × DataW H) → Nat
  | [] => 0
  | x :: r => uptoBulkEntry x + uptoBulkEntries r
def uptoBulkEntry {H : Type} : Lit × DataW H → Nat
  | (.string bytes, d) => bytes.length + uptoBulk d + 1
  | (_, d) => uptoBulk d + 1
 end
def uptoSmall : (H : Type) → List (DataW H) → Bool := fun _ ds => decide (uptoBulkAll ds ≤ 1048576)
def OpenSpec.upto (s : _root_.Go.ChangeSpec) : _root_.Go.OpenSpec := { _root_.Go.OpenSpec.ofChange s with cond := some uptoSmall }

/-- 'cauterylaw02.ShaSum', WHERE WHAT IT READS IS OF BULK AT MOST 1048576: true; the input reads as it did. -/
def shaSumUptoRow : OpenClaim := { program := "ytoegpjfpfhjbkaa", sum := "5eb34931cfcb4c60cf5c593f7ff6d2a6f16765f43e5ef9af00bad18941b639e7", func := "cautery/cauterylaw02.ShaSum", spec := "shaSum", apart := false, narrowed := true }
def ShaSumUptoSaid : Prop := shaSumUptoRow.holds Try.pinned (OpenSpec.upto shaSumSpec)

/-- 'cauterylaw02.ShaPieces', WHERE WHAT IT READS IS OF BULK AT MOST 1048576: true; the input reads as it did. -/
def shaPiecesUptoRow : OpenClaim := { program := "ytoegpjfpfhjbkaa", sum := "5eb34931cfcb4c60cf5c593f7ff6d2a6f16765f43e5ef9af00bad18941b639e7", func := "cautery/cauterylaw02.ShaPieces", spec := "shaPieces", apart := false, narrowed := true }
def ShaPiecesUptoSaid : Prop := shaPiecesUptoRow.holds Try.pinned (OpenSpec.upto shaPiecesSpec)

/-- 'cauterylaw02.ShaLong', WHERE WHAT IT READS IS OF BULK AT MOST 1048576: true; the input reads as it did. -/
def shaLongUptoRow : OpenClaim := { program := "ytoegpjfpfhjbkaa", sum := "5eb34931cfcb4c60cf5c593f7ff6d2a6f16765f43e5ef9af00bad18941b639e7", func := "cautery/cauterylaw02.ShaLong", spec := "shaLong", apart := false, narrowed := true }
def ShaLongUptoSaid : Prop := shaLongUptoRow.holds Try.pinned (OpenSpec.upto shaLongSpec)

/-- 'cauterylaw02.ShaRoots', WHERE WHAT IT READS IS OF BULK AT MOST 1048576: true; the input reads as it did. -/
def shaRootsUptoRow : OpenClaim := { program := "ytoegpjfpfhjbkaa", sum := "5eb34931cfcb4c60cf5c593f7ff6d2a6f16765f43e5ef9af00bad18941b639e7", func := "cautery/cauterylaw02.ShaRoots", spec := "shaRoots", apart := false, narrowed := true }
def ShaRootsUptoSaid : Prop := shaRootsUptoRow.holds Try.pinned (OpenSpec.upto shaRootsSpec)

/-- 'cauterylaw02.ShaTree', WHERE WHAT IT READS IS OF BULK AT MOST 1048576: true; the input reads as it did. -/
def shaTreeUptoRow : OpenClaim := { program := "ytoegpjfpfhjbkaa", sum := "5eb34931cfcb4c60cf5c593f7ff6d2a6f16765f43e5ef9af00bad18941b639e7", func := "cautery/cauterylaw02.ShaTree", spec := "shaTree", recurses := true, apart := false, narrowed := true }
def ShaTreeUptoSaid : Prop := shaTreeUptoRow.holds Try.pinned (OpenSpec.upto shaTreeSpec)

/-- 'cauterylaw02.ShaNil', WHERE WHAT IT READS IS OF BULK AT MOST 1048576: true; the input reads as it did. -/
def shaNilUptoRow : OpenClaim := { program := "ytoegpjfpfhjbkaa", sum := "5eb34931cfcb4c60cf5c593f7ff6d2a6f16765f43e5ef9af00bad18941b639e7", func := "cautery/cauterylaw02.ShaNil", spec := "shaNil", recurses := true, apart := false, narrowed := true }
def ShaNilUptoSaid : Prop := shaNilUptoRow.holds Try.pinned (OpenSpec.upto shaNilSpec)

end Rows
end Go.Proofs.Ytoegpjfpfhjbkaa
