/-
  No cell of these rows narrows 'for every input' (looked for: loops, veiled, ifaces, maps, wideKeys, modest, calm, conditions, laid).
  DERIVED. THE GIVEN ROWS OF THIS SEAT. 4 by the template 'for every input the law returns true; each argument reads behind the call as it read before'; 0 by the template 'total and deterministic' (their statements: YtkehejkjifgieaaTotals.lean).
  GIVEN WITH THE SEED: the statements are not yours to turn. If you find one false, say at which input.
  Laid BY PROGRAM, IN A SANDBOX (cutbox-rows.mjs): the forced cells as the released guide's own fill.sh prints them over the translation d3ab42267f3bb9cc… (all of the seat's roots in one cut). By AI agents, Wed Nov 11 2026. No macro, syntax, notation, axiom, sorry.
-/
import Derived.Test.YtkehejkjifgieaaChecked
import GoSem.Claim
import GoSem.ClaimJoined
import GoSem.ClaimMapViews
import Derived.JoinedTies
import Derived.KernelRfl
namespace Go.Proofs.Ytkehejkjifgieaa
/- THE CELL 'sum', in the pinned program and in every row, IS THE sha256 OF THE DUMP (.gsa) THAT YtkehejkjifgieaaProg.lean LOADS. Nothing in Lean hashes anything: it is a label: what it is worth is what the hold of that sum in a sandbox is worth. -/
noncomputable def Try.pinned : Pinned := { name := "ytkehejkjifgieaa", sum := "d3ab42267f3bb9cc78b6a1140bcdda8e055054bbbb2c273dbc427f2883b53af7", checked := Try.checked }
namespace Rows
def none {H : Type} : Left H := { results := [], args := [] }

/-- 'cauterylaw32.WindowAll': WHATEVER THE INPUT: true; the input reads as it did. -/
def windowAllSpec : ChangeSpec := { name := "windowAll", fn := fun _ => fun
  | [d1, d2] => { results := [.lit (.bool true)], args := [d1, d2] }
  | _ => none }
def windowAllRow : OpenClaim := { program := "ytkehejkjifgieaa", sum := "d3ab42267f3bb9cc78b6a1140bcdda8e055054bbbb2c273dbc427f2883b53af7", func := "cautery/cauterylaw32.WindowAll", spec := "windowAll", apart := false }
def WindowAllSaid : Prop := windowAllRow.holds Try.pinned (OpenSpec.ofChange windowAllSpec)

/-- ITS FALSE NEIGHBOUR: 'it returns false'. Refute it at one input. -/
def windowAllWrong : ChangeSpec := { name := "windowAll", fn := fun _ => fun
  | [d1, d2] => { results := [.lit (.bool false)], args := [d1, d2] }
  | _ => none }
def WindowAllWrongFalsely : Prop := windowAllRow.holds Try.pinned (OpenSpec.ofChange windowAllWrong)

/-- 'cauterylaw32.WindowNil': WHATEVER THE INPUT: true; the input reads as it did. -/
def windowNilSpec : ChangeSpec := { name := "windowNil", fn := fun _ => fun
  | [d1, d2] => { results := [.lit (.bool true)], args := [d1, d2] }
  | _ => none }
def windowNilRow : OpenClaim := { program := "ytkehejkjifgieaa", sum := "d3ab42267f3bb9cc78b6a1140bcdda8e055054bbbb2c273dbc427f2883b53af7", func := "cautery/cauterylaw32.WindowNil", spec := "windowNil", apart := false }
def WindowNilSaid : Prop := windowNilRow.holds Try.pinned (OpenSpec.ofChange windowNilSpec)

/-- ITS FALSE NEIGHBOUR: 'it returns false'. Refute it at one input. -/
def windowNilWrong : ChangeSpec := { name := "windowNil", fn := fun _ => fun
  | [d1, d2] => { results := [.lit (.bool false)], args := [d1, d2] }
  | _ => none }
def WindowNilWrongFalsely : Prop := windowNilRow.holds Try.pinned (OpenSpec.ofChange windowNilWrong)

/-- 'cauterylaw32.WindowPlays': WHATEVER THE INPUT: true; the input reads as it did. -/
def windowPlaysSpec : ChangeSpec := { name := "windowPlays", fn := fun _ => fun
  | [d] => { results := [.lit (.bool true)], args := [d] }
  | _ => none }
def windowPlaysRow : OpenClaim := { program := "ytkehejkjifgieaa", sum := "d3ab42267f3bb9cc78b6a1140bcdda8e055054bbbb2c273dbc427f2883b53af7", func := "cautery/cauterylaw32.WindowPlays", spec := "windowPlays", apart := false }
def WindowPlaysSaid : Prop := windowPlaysRow.holds Try.pinned (OpenSpec.ofChange windowPlaysSpec)

/-- ITS FALSE NEIGHBOUR: 'it returns false'. Refute it at one input. -/
def windowPlaysWrong : ChangeSpec := { name := "windowPlays", fn := fun _ => fun
  | [d] => { results := [.lit (.bool false)], args := [d] }
  | _ => none }
def WindowPlaysWrongFalsely : Prop := windowPlaysRow.holds Try.pinned (OpenSpec.ofChange windowPlaysWrong)

/-- 'cauterylaw32.WindowOnce': WHATEVER THE INPUT: true; the input reads as it did. -/
def windowOnceSpec : ChangeSpec := { name := "windowOnce", fn := fun _ => fun
  | [d1, d2] => { results := [.lit (.bool true)], args := [d1, d2] }
  | _ => none }
def windowOnceRow : OpenClaim := { program := "ytkehejkjifgieaa", sum := "d3ab42267f3bb9cc78b6a1140bcdda8e055054bbbb2c273dbc427f2883b53af7", func := "cautery/cauterylaw32.WindowOnce", spec := "windowOnce", apart := false }
def WindowOnceSaid : Prop := windowOnceRow.holds Try.pinned (OpenSpec.ofChange windowOnceSpec)

/-- ITS FALSE NEIGHBOUR: 'it returns false'. Refute it at one input. -/
def windowOnceWrong : ChangeSpec := { name := "windowOnce", fn := fun _ => fun
  | [d1, d2] => { results := [.lit (.bool false)], args := [d1, d2] }
  | _ => none }
def WindowOnceWrongFalsely : Prop := windowOnceRow.holds Try.pinned (OpenSpec.ofChange windowOnceWrong)

/- THE SECOND FORM. 'bulk': how many values and letters a reading holds, each counted each time it is reached (what is shared counts as often as it is met; a slice's spare places count too). A statement '..UptoSaid' is the law's where the arguments, and the package variables that the reading takes, are together of bulk at most 1048576: NARROWER than '..Said'. Prove '..Said' where nothing that the law and all that it calls make is longer than what came in: it says more and counts as full. Else prove '..UptoSaid'. A law counts once. -/
mutual
def uptoBulk {H : Type} : DataW H → Nat
  | .lit (.string bytes) => bytes.length + 1
  | .lit _ => 1
  | .nil => 1
  | .ptr d => uptoBulk d + 1
  | .slice elems spare => uptoBulkAll elems + uptoBulkAll spare + 1
  | .agg parts => uptoBulkAll parts + 1
  | .iface _ d => uptoBulk d + 1
  | .map entries => uptoBulkEntries entries + 1
  | .held _ => 1
def uptoBulkAll {H : Type} : List (DataW H) → Nat
  | [] => 0
  | d :: r => uptoBulk d + uptoBulkAll r
def uptoBulkEntries {H : Type} : List (Lit × DataW H) → Nat
  | [] => 0
  | x :: r => uptoBulkEntry x + uptoBulkEntries r
def uptoBulkEntry {H : Type} : Lit × DataW H → Nat
  | (.string bytes, d) => bytes.length + uptoBulk d + 1
  | (_, d) => uptoBulk d + 1
 end
def uptoSmall : (H : Type) → List (DataW H) → Bool := fun _ ds => decide (uptoBulkAll ds ≤ 1048576)
def OpenSpec.upto (s : _root_.Go.ChangeSpec) : _root_.Go.OpenSpec := { _root_.Go.OpenSpec.ofChange s with cond := some uptoSmall }

/-- 'cauterylaw32.WindowAll', WHERE WHAT IT READS IS OF BULK AT MOST 1048576: true; the input reads as it did. -/
def windowAllUptoRow : OpenClaim := { program := "ytkehejkjifgieaa", sum := "d3ab42267f3bb9cc78b6a1140bcdda8e055054bbbb2c273dbc427f2883b53af7", func := "cautery/cauterylaw32.WindowAll", spec := "windowAll", apart := false, narrowed := true }
def WindowAllUptoSaid : Prop := windowAllUptoRow.holds Try.pinned (OpenSpec.upto windowAllSpec)

/-- 'cauterylaw32.WindowNil', WHERE WHAT IT READS IS OF BULK AT MOST 1048576: true; the input reads as it did. -/
def windowNilUptoRow : OpenClaim := { program := "ytkehejkjifgieaa", sum := "d3ab42267f3bb9cc78b6a1140bcdda8e055054bbbb2c273dbc427f2883b53af7", func := "cautery/cauterylaw32.WindowNil", spec := "windowNil", apart := false, narrowed := true }
def WindowNilUptoSaid : Prop := windowNilUptoRow.holds Try.pinned (OpenSpec.upto windowNilSpec)

/-- 'cauterylaw32.WindowPlays', WHERE WHAT IT READS IS OF BULK AT MOST 1048576: true; the input reads as it did. -/
def windowPlaysUptoRow : OpenClaim := { program := "ytkehejkjifgieaa", sum := "d3ab42267f3bb9cc78b6a1140bcdda8e055054bbbb2c273dbc427f2883b53af7", func := "cautery/cauterylaw32.WindowPlays", spec := "windowPlays", apart := false, narrowed := true }
def WindowPlaysUptoSaid : Prop := windowPlaysUptoRow.holds Try.pinned (OpenSpec.upto windowPlaysSpec)

/-- 'cauterylaw32.WindowOnce', WHERE WHAT IT READS IS OF BULK AT MOST 1048576: true; the input reads as it did. -/
def windowOnceUptoRow : OpenClaim := { program := "ytkehejkjifgieaa", sum := "d3ab42267f3bb9cc78b6a1140bcdda8e055054bbbb2c273dbc427f2883b53af7", func := "cautery/cauterylaw32.WindowOnce", spec := "windowOnce", apart := false, narrowed := true }
def WindowOnceUptoSaid : Prop := windowOnceUptoRow.holds Try.pinned (OpenSpec.upto windowOnceSpec)

end Rows
end Go.Proofs.Ytkehejkjifgieaa
