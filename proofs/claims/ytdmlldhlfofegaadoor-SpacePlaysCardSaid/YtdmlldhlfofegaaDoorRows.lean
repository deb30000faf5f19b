/-
  NARROWER THAN 'FOR EVERY INPUT', by the rows' own cells (each row's printed sentence says how): SpaceTaken: laid · SpacePlays: laid · SpaceNil: laid · SpaceLoad: laid · SpaceBack: laid.
  DERIVED. THE GIVEN ROWS OF THIS SEAT. 5 by the template 'for every input the law returns true; each argument reads behind the call as it read before'; 0 by the template 'total and deterministic' (their statements: YtdmlldhlfofegaaDoorTotals.lean).
  GIVEN WITH THE SEED: the statements are not yours to turn. If you find one false, say at which input.
  Laid BY PROGRAM, IN A SANDBOX (cutbox-rows.mjs): the forced cells as the released guide's own fill.sh prints them over the translation 899269ad0c546d9d… (all of the seat's roots in one cut). By AI agents, Wed Nov 11 2026. No macro, syntax, notation, axiom, sorry.
-/
import Derived.Test.YtdmlldhlfofegaaDoorChecked
import GoSem.Claim
import GoSem.ClaimJoined
import GoSem.ClaimMapViews
import Derived.JoinedTies
import Derived.KernelRfl
namespace Go.Proofs.YtdmlldhlfofegaaDoor
/- THE CELL 'sum', in the pinned program and in every row, IS THE sha256 OF THE DUMP (.gsa) THAT YtdmlldhlfofegaaDoorProg.lean LOADS. Nothing in Lean hashes anything: it is a label: what it is worth is what the hold of that sum in a sandbox is worth. -/
noncomputable def Tryd.pinned : Pinned := { name := "ytdmlldhlfofegaadoor", sum := "899269ad0c546d9dcada2a70431dfd7df316e4a2ab533e3661f462e9d3aa0271", checked := Tryd.checked }
namespace Rows
def none {H : Type} : Left H := { results := [], args := [] }

/- WHAT THE LISTED PACKAGE-LEVEL VARIABLES READ AS WHEN THE CALL BEGINS. Each datum BY PROGRAM (the guide's laid-datum.mjs) off the statement by which the dump's own 'gosem.cut.vars' lays the variable. In a bare row this is a premise. The card (YtdmlldhlfofegaaDoorCards.lean) ties it to the program's text. -/
def laid_math_bits_deBruijn64tab {H : Type} : DataW H := .agg [.lit (.int .u8 0), .lit (.int .u8 1), .lit (.int .u8 56), .lit (.int .u8 2), .lit (.int .u8 57), .lit (.int .u8 49), .lit (.int .u8 28), .lit (.int .u8 3), .lit (.int .u8 61), .lit (.int .u8 58), .lit (.int .u8 42), .lit (.int .u8 50), .lit (.int .u8 38), .lit (.int .u8 29), .lit (.int .u8 17), .lit (.int .u8 4), .lit (.int .u8 62), .lit (.int .u8 47), .lit (.int .u8 59), .lit (.int .u8 36), .lit (.int .u8 45), .lit (.int .u8 43), .lit (.int .u8 51), .lit (.int .u8 22), .lit (.int .u8 53), .lit (.int .u8 39), .lit (.int .u8 33), .lit (.int .u8 30), .lit (.int .u8 24), .lit (.int .u8 18), .lit (.int .u8 12), .lit (.int .u8 5), .lit (.int .u8 63), .lit (.int .u8 55), .lit (.int .u8 48), .lit (.int .u8 27), .lit (.int .u8 60), .lit (.int .u8 41), .lit (.int .u8 37), .lit (.int .u8 16), .lit (.int .u8 46), .lit (.int .u8 35), .lit (.int .u8 44), .lit (.int .u8 21), .lit (.int .u8 52), .lit (.int .u8 32), .lit (.int .u8 23), .lit (.int .u8 11), .lit (.int .u8 54), .lit (.int .u8 26), .lit (.int .u8 40), .lit (.int .u8 15), .lit (.int .u8 34), .lit (.int .u8 20), .lit (.int .u8 31), .lit (.int .u8 10), .lit (.int .u8 25), .lit (.int .u8 14), .lit (.int .u8 19), .lit (.int .u8 9), .lit (.int .u8 13), .lit (.int .u8 8), .lit (.int .u8 7), .lit (.int .u8 6)]

/-- 'cauterylaw06.SpaceTaken': WHATEVER THE INPUT: true; the input reads as it did. -/
def spaceTakenSpec : ChangeSpec := { name := "spaceTaken", fn := fun _ => fun
  | [d1, d2] => { results := [.lit (.bool true)], args := [d1, d2] }
  | _ => none }
def spaceTakenRow : OpenClaim := { program := "ytdmlldhlfofegaadoor", sum := "899269ad0c546d9dcada2a70431dfd7df316e4a2ab533e3661f462e9d3aa0271", func := "cautery/cauterylaw06.SpaceTaken", spec := "spaceTaken", named := ["math/bits.deBruijn64tab"], apart := false, laid := [("math/bits.deBruijn64tab", laid_math_bits_deBruijn64tab)] }
def SpaceTakenSaid : Prop := spaceTakenRow.holds Tryd.pinned (OpenSpec.ofChange spaceTakenSpec)

/-- ITS FALSE NEIGHBOUR: 'it returns false'. Refute it at one input. -/
def spaceTakenWrong : ChangeSpec := { name := "spaceTaken", fn := fun _ => fun
  | [d1, d2] => { results := [.lit (.bool false)], args := [d1, d2] }
  | _ => none }
def SpaceTakenWrongFalsely : Prop := spaceTakenRow.holds Tryd.pinned (OpenSpec.ofChange spaceTakenWrong)

/-- 'cauterylaw06.SpacePlays': WHATEVER THE INPUT: true; the input reads as it did. -/
def spacePlaysSpec : ChangeSpec := { name := "spacePlays", fn := fun _ => fun
  | [d1, d2] => { results := [.lit (.bool true)], args := [d1, d2] }
  | _ => none }
def spacePlaysRow : OpenClaim := { program := "ytdmlldhlfofegaadoor", sum := "899269ad0c546d9dcada2a70431dfd7df316e4a2ab533e3661f462e9d3aa0271", func := "cautery/cauterylaw06.SpacePlays", spec := "spacePlays", named := ["math/bits.deBruijn64tab"], apart := false, laid := [("math/bits.deBruijn64tab", laid_math_bits_deBruijn64tab)] }
def SpacePlaysSaid : Prop := spacePlaysRow.holds Tryd.pinned (OpenSpec.ofChange spacePlaysSpec)

/-- ITS FALSE NEIGHBOUR: 'it returns false'. Refute it at one input. -/
def spacePlaysWrong : ChangeSpec := { name := "spacePlays", fn := fun _ => fun
  | [d1, d2] => { results := [.lit (.bool false)], args := [d1, d2] }
  | _ => none }
def SpacePlaysWrongFalsely : Prop := spacePlaysRow.holds Tryd.pinned (OpenSpec.ofChange spacePlaysWrong)

/-- 'cauterylaw06.SpaceNil': WHATEVER THE INPUT: true; the input reads as it did. -/
def spaceNilSpec : ChangeSpec := { name := "spaceNil", fn := fun _ => fun
  | [d1, d2] => { results := [.lit (.bool true)], args := [d1, d2] }
  | _ => none }
def spaceNilRow : OpenClaim := { program := "ytdmlldhlfofegaadoor", sum := "899269ad0c546d9dcada2a70431dfd7df316e4a2ab533e3661f462e9d3aa0271", func := "cautery/cauterylaw06.SpaceNil", spec := "spaceNil", named := ["math/bits.deBruijn64tab"], apart := false, laid := [("math/bits.deBruijn64tab", laid_math_bits_deBruijn64tab)] }
def SpaceNilSaid : Prop := spaceNilRow.holds Tryd.pinned (OpenSpec.ofChange spaceNilSpec)

/-- ITS FALSE NEIGHBOUR: 'it returns false'. Refute it at one input. -/
def spaceNilWrong : ChangeSpec := { name := "spaceNil", fn := fun _ => fun
  | [d1, d2] => { results := [.lit (.bool false)], args := [d1, d2] }
  | _ => none }
def SpaceNilWrongFalsely : Prop := spaceNilRow.holds Tryd.pinned (OpenSpec.ofChange spaceNilWrong)

/-- 'cauterylaw06.SpaceLoad': WHATEVER THE INPUT: true; the input reads as it did. -/
def spaceLoadSpec : ChangeSpec := { name := "spaceLoad", fn := fun _ => fun
  | [d1, d2] => { results := [.lit (.bool true)], args := [d1, d2] }
  | _ => none }
def spaceLoadRow : OpenClaim := { program := "ytdmlldhlfofegaadoor", sum := "899269ad0c546d9dcada2a70431dfd7df316e4a2ab533e3661f462e9d3aa0271", func := "cautery/cauterylaw06.SpaceLoad", spec := "spaceLoad", named := ["math/bits.deBruijn64tab"], apart := false, laid := [("math/bits.deBruijn64tab", laid_math_bits_deBruijn64tab)] }
def SpaceLoadSaid : Prop := spaceLoadRow.holds Tryd.pinned (OpenSpec.ofChange spaceLoadSpec)

/-- ITS FALSE NEIGHBOUR: 'it returns false'. Refute it at one input. -/
def spaceLoadWrong : ChangeSpec := { name := "spaceLoad", fn := fun _ => fun
  | [d1, d2] => { results := [.lit (.bool false)], args := [d1, d2] }
  | _ => none }
def SpaceLoadWrongFalsely : Prop := spaceLoadRow.holds Tryd.pinned (OpenSpec.ofChange spaceLoadWrong)

/-- 'cauterylaw06.SpaceBack': WHATEVER THE INPUT: true; the input reads as it did. -/
def spaceBackSpec : ChangeSpec := { name := "spaceBack", fn := fun _ => fun
  | [d1, d2, d3] => { results := [.lit (.bool true)], args := [d1, d2, d3] }
  | _ => none }
def spaceBackRow : OpenClaim := { program := "ytdmlldhlfofegaadoor", sum := "899269ad0c546d9dcada2a70431dfd7df316e4a2ab533e3661f462e9d3aa0271", func := "cautery/cauterylaw06.SpaceBack", spec := "spaceBack", named := ["math/bits.deBruijn64tab"], apart := false, laid := [("math/bits.deBruijn64tab", laid_math_bits_deBruijn64tab)] }
def SpaceBackSaid : Prop := spaceBackRow.holds Tryd.pinned (OpenSpec.ofChange spaceBackSpec)

/-- ITS FALSE NEIGHBOUR: 'it returns false'. Refute it at one input. -/
def spaceBackWrong : ChangeSpec := { name := "spaceBack", fn := fun _ => fun
  | [d1, d2, d3] => { results := [.lit (.bool false)], args := [d1, d2, d3] }
  | _ => none }
def SpaceBackWrongFalsely : Prop := spaceBackRow.holds Tryd.pinned (OpenSpec.ofChange spaceBackWrong)

/- THE SECOND FORM. 'bulk': how many values and letters a reading holds, each counted each time it is reached (what is shared counts as often as it is met; a slice's spare places count too). A statement '..UptoSaid' is the law's where the arguments, and the package variables that the reading takes, are together of bulk at most 1048576: NARROWER than '..Said'. Prove '..Said' where nothing that the law and all that it calls make is longer than what came in: it says more and counts as full. Else prove '..UptoSaid'. A law counts once. -/
mutual
def uptoBulk {H : Type} : DataW H → Nat
  | .lit (.string bytes) => bytes.length + 1
  | .lit _ => 1
  | .nil => 1
  | .ptr d => uptoBulk d + 1
  | .slice elems spare => uptoBulkAll elems + uptoBulkAll spare + 1
  | .agg parts => uptoBulkAll parts + 1
  | .iface _ d => uptoBulk d + 1
  | .map entries => uptoBulkEntries entries + 1
  | .held _ => 1
def uptoBulkAll {H : Type} : List (DataW H) → Nat
  | [] => 0
  | d :: r => uptoBulk d + uptoBulkAll r
def uptoBulkEntries {H : Type} : List (Lit × DataW H) → Nat
  | [] => 0
  | x :: r => uptoBulkEntry x + uptoBulkEntries r
def uptoBulkEntry {H : Type} : Lit × DataW H → Nat
  | (.string bytes, d) => bytes.length + uptoBulk d + 1
  | (_, d) => uptoBulk d + 1
 end
def uptoSmall : (H : Type) → List (DataW H) → Bool := fun _ ds => decide (uptoBulkAll ds ≤ 1048576)
def OpenSpec.upto (s : _root_.Go.ChangeSpec) : _root_.Go.OpenSpec := { _root_.Go.OpenSpec.ofChange s with cond := some uptoSmall }

/-- 'cauterylaw06.SpaceTaken', WHERE WHAT IT READS IS OF BULK AT MOST 1048576: true; the input reads as it did. -/
def spaceTakenUptoRow : OpenClaim := { program := "ytdmlldhlfofegaadoor", sum := "899269ad0c546d9dcada2a70431dfd7df316e4a2ab533e3661f462e9d3aa0271", func := "cautery/cauterylaw06.SpaceTaken", spec := "spaceTaken", named := ["math/bits.deBruijn64tab"], apart := false, laid := [("math/bits.deBruijn64tab", laid_math_bits_deBruijn64tab)], narrowed := true }
def SpaceTakenUptoSaid : Prop := spaceTakenUptoRow.holds Tryd.pinned (OpenSpec.upto spaceTakenSpec)

/-- 'cauterylaw06.SpacePlays', WHERE WHAT IT READS IS OF BULK AT MOST 1048576: true; the input reads as it did. -/
def spacePlaysUptoRow : OpenClaim := { program := "ytdmlldhlfofegaadoor", sum := "899269ad0c546d9dcada2a70431dfd7df316e4a2ab533e3661f462e9d3aa0271", func := "cautery/cauterylaw06.SpacePlays", spec := "spacePlays", named := ["math/bits.deBruijn64tab"], apart := false, laid := [("math/bits.deBruijn64tab", laid_math_bits_deBruijn64tab)], narrowed := true }
def SpacePlaysUptoSaid : Prop := spacePlaysUptoRow.holds Tryd.pinned (OpenSpec.upto spacePlaysSpec)

/-- 'cauterylaw06.SpaceNil', WHERE WHAT IT READS IS OF BULK AT MOST 1048576: true; the input reads as it did. -/
def spaceNilUptoRow : OpenClaim := { program := "ytdmlldhlfofegaadoor", sum := "899269ad0c546d9dcada2a70431dfd7df316e4a2ab533e3661f462e9d3aa0271", func := "cautery/cauterylaw06.SpaceNil", spec := "spaceNil", named := ["math/bits.deBruijn64tab"], apart := false, laid := [("math/bits.deBruijn64tab", laid_math_bits_deBruijn64tab)], narrowed := true }
def SpaceNilUptoSaid : Prop := spaceNilUptoRow.holds Tryd.pinned (OpenSpec.upto spaceNilSpec)

/-- 'cauterylaw06.SpaceLoad', WHERE WHAT IT READS IS OF BULK AT MOST 1048576: true; the input reads as it did. -/
def spaceLoadUptoRow : OpenClaim := { program := "ytdmlldhlfofegaadoor", sum := "899269ad0c546d9dcada2a70431dfd7df316e4a2ab533e3661f462e9d3aa0271", func := "cautery/cauterylaw06.SpaceLoad", spec := "spaceLoad", named := ["math/bits.deBruijn64tab"], apart := false, laid := [("math/bits.deBruijn64tab", laid_math_bits_deBruijn64tab)], narrowed := true }
def SpaceLoadUptoSaid : Prop := spaceLoadUptoRow.holds Tryd.pinned (OpenSpec.upto spaceLoadSpec)

/-- 'cauterylaw06.SpaceBack', WHERE WHAT IT READS IS OF BULK AT MOST 1048576: true; the input reads as it did. -/
def spaceBackUptoRow : OpenClaim := { program := "ytdmlldhlfofegaadoor", sum := "899269ad0c546d9dcada2a70431dfd7df316e4a2ab533e3661f462e9d3aa0271", func := "cautery/cauterylaw06.SpaceBack", spec := "spaceBack", named := ["math/bits.deBruijn64tab"], apart := false, laid := [("math/bits.deBruijn64tab", laid_math_bits_deBruijn64tab)], narrowed := true }
def SpaceBackUptoSaid : Prop := spaceBackUptoRow.holds Tryd.pinned (OpenSpec.upto spaceBackSpec)

end Rows
end Go.Proofs.YtdmlldhlfofegaaDoor
