/-
  No cell of these rows narrows 'for every input' (looked for: loops, veiled, ifaces, maps, wideKeys, modest, calm, conditions, laid).
  DERIVED. THE GIVEN ROWS OF THIS SEAT. 5 by the template 'for every input the law returns true; each argument reads behind the call as it read before'; 0 by the template 'total and deterministic' (their statements: YthlggjchgngefaaTotals.lean).
  GIVEN WITH THE SEED: the statements are not yours to turn. If you find one false, say at which input.
  Laid BY PROGRAM, IN A SANDBOX (cutbox-rows.mjs): the forced cells as the released guide's own fill.sh prints them over the translation 6c0a4dab2c333fcc… (all of the seat's roots in one cut). By AI agents, Wed Nov 11 2026. No macro, syntax, notation, axiom, sorry.
-/
import Derived.Test.YthlggjchgngefaaChecked
import GoSem.Claim
import GoSem.ClaimJoined
import GoSem.ClaimMapViews
import Derived.JoinedTies
import Derived.KernelRfl
namespace Go.Proofs.Ythlggjchgngefaa
/- THE CELL 'sum', in the pinned program and in every row, IS THE sha256 OF THE DUMP (.gsa) THAT YthlggjchgngefaaProg.lean LOADS. Nothing in Lean hashes anything: it is a label: what it is worth is what the hold of that sum in a sandbox is worth. -/
noncomputable def Try.pinned : Pinned := { name := "ythlggjchgngefaa", sum := "6c0a4dab2c333fcc5673188e298f6e1acaa77ae3a30e9eb87ae4989667956ee3", checked := Try.checked }
namespace Rows
def none {H : Type} : Left H := { results := [], args := [] }

/-- 'cauterylaw29.ClockJoin': WHATEVER THE INPUT: true; the input reads as it did. -/
def clockJoinSpec : ChangeSpec := { name := "clockJoin", fn := fun _ => fun
  | [d] => { results := [.lit (.bool true)], args := [d] }
  | _ => none }
def clockJoinRow : OpenClaim := { program := "ythlggjchgngefaa", sum := "6c0a4dab2c333fcc5673188e298f6e1acaa77ae3a30e9eb87ae4989667956ee3", func := "cautery/cauterylaw29.ClockJoin", spec := "clockJoin", unfollowed := true, recurses := true, apart := false }
def ClockJoinSaid : Prop := clockJoinRow.holds Try.pinned (OpenSpec.ofChange clockJoinSpec)

/-- ITS FALSE NEIGHBOUR: 'it returns false'. Refute it at one input. -/
def clockJoinWrong : ChangeSpec := { name := "clockJoin", fn := fun _ => fun
  | [d] => { results := [.lit (.bool false)], args := [d] }
  | _ => none }
def ClockJoinWrongFalsely : Prop := clockJoinRow.holds Try.pinned (OpenSpec.ofChange clockJoinWrong)

/-- 'cauterylaw29.ClockParse': WHATEVER THE INPUT: true; the input reads as it did. -/
def clockParseSpec : ChangeSpec := { name := "clockParse", fn := fun _ => fun
  | [d] => { results := [.lit (.bool true)], args := [d] }
  | _ => none }
def clockParseRow : OpenClaim := { program := "ythlggjchgngefaa", sum := "6c0a4dab2c333fcc5673188e298f6e1acaa77ae3a30e9eb87ae4989667956ee3", func := "cautery/cauterylaw29.ClockParse", spec := "clockParse", unfollowed := true, recurses := true, apart := false }
def ClockParseSaid : Prop := clockParseRow.holds Try.pinned (OpenSpec.ofChange clockParseSpec)

/-- ITS FALSE NEIGHBOUR: 'it returns false'. Refute it at one input. -/
def clockParseWrong : ChangeSpec := { name := "clockParse", fn := fun _ => fun
  | [d] => { results := [.lit (.bool false)], args := [d] }
  | _ => none }
def ClockParseWrongFalsely : Prop := clockParseRow.holds Try.pinned (OpenSpec.ofChange clockParseWrong)

/-- 'cauterylaw29.ClockBack': WHATEVER THE INPUT: true; the input reads as it did. -/
def clockBackSpec : ChangeSpec := { name := "clockBack", fn := fun _ => fun
  | [d1, d2] => { results := [.lit (.bool true)], args := [d1, d2] }
  | _ => none }
def clockBackRow : OpenClaim := { program := "ythlggjchgngefaa", sum := "6c0a4dab2c333fcc5673188e298f6e1acaa77ae3a30e9eb87ae4989667956ee3", func := "cautery/cauterylaw29.ClockBack", spec := "clockBack", unfollowed := true, recurses := true, apart := false }
def ClockBackSaid : Prop := clockBackRow.holds Try.pinned (OpenSpec.ofChange clockBackSpec)

/-- ITS FALSE NEIGHBOUR: 'it returns false'. Refute it at one input. -/
def clockBackWrong : ChangeSpec := { name := "clockBack", fn := fun _ => fun
  | [d1, d2] => { results := [.lit (.bool false)], args := [d1, d2] }
  | _ => none }
def ClockBackWrongFalsely : Prop := clockBackRow.holds Try.pinned (OpenSpec.ofChange clockBackWrong)

/-- 'cauterylaw29.ClockTold': WHATEVER THE INPUT: true; the input reads as it did. -/
def clockToldSpec : ChangeSpec := { name := "clockTold", fn := fun _ => fun
  | [d] => { results := [.lit (.bool true)], args := [d] }
  | _ => none }
def clockToldRow : OpenClaim := { program := "ythlggjchgngefaa", sum := "6c0a4dab2c333fcc5673188e298f6e1acaa77ae3a30e9eb87ae4989667956ee3", func := "cautery/cauterylaw29.ClockTold", spec := "clockTold", unfollowed := true, recurses := true, apart := false }
def ClockToldSaid : Prop := clockToldRow.holds Try.pinned (OpenSpec.ofChange clockToldSpec)

/-- ITS FALSE NEIGHBOUR: 'it returns false'. Refute it at one input. -/
def clockToldWrong : ChangeSpec := { name := "clockTold", fn := fun _ => fun
  | [d] => { results := [.lit (.bool false)], args := [d] }
  | _ => none }
def ClockToldWrongFalsely : Prop := clockToldRow.holds Try.pinned (OpenSpec.ofChange clockToldWrong)

/-- 'cauterylaw29.ClockLater': WHATEVER THE INPUT: true; the input reads as it did. -/
def clockLaterSpec : ChangeSpec := { name := "clockLater", fn := fun _ => fun
  | [d1, d2] => { results := [.lit (.bool true)], args := [d1, d2] }
  | _ => none }
def clockLaterRow : OpenClaim := { program := "ythlggjchgngefaa", sum := "6c0a4dab2c333fcc5673188e298f6e1acaa77ae3a30e9eb87ae4989667956ee3", func := "cautery/cauterylaw29.ClockLater", spec := "clockLater", unfollowed := true, recurses := true, apart := false }
def ClockLaterSaid : Prop := clockLaterRow.holds Try.pinned (OpenSpec.ofChange clockLaterSpec)

/-- ITS FALSE NEIGHBOUR: 'it returns false'. Refute it at one input. -/
def clockLaterWrong : ChangeSpec := { name := "clockLater", fn := fun _ => fun
  | [d1, d2] => { results := [.lit (.bool false)], args := [d1, d2] }
  | _ => none }
def ClockLaterWrongFalsely : Prop := clockLaterRow.holds Try.pinned (OpenSpec.ofChange clockLaterWrong)

/- THE SECOND FORM. 'bulk': how many values and letters a reading holds, each counted each time it is reached (what is shared counts as often as it is met; a slice's spare places count too). A statement '..UptoSaid' is the law's where the arguments, and the package variables that the reading takes, are together of bulk at most 1048576: NARROWER than '..Said'. Prove '..Said' where nothing that the law and all that it calls make is longer than what came in: it says more and counts as full. Else prove '..UptoSaid'. A law counts once. -/
mutual
def uptoBulk {H : Type} : DataW H → Nat
  | .lit (.string bytes) => bytes.length + 1
  | .lit _ => 1
  | .nil => 1
  | .ptr d => uptoBulk d + 1
  | .slice elems spare => uptoBulkAll elems + uptoBulkAll spare + 1
  | .agg parts => uptoBulkAll parts + 1
  | .iface _ d => uptoBulk d + 1
  | .map entries => uptoBulkEntries entries + 1
  | .held _ => 1
def uptoBulkAll {H : Type} : List (DataW H) → Nat
  | [] => 0
  | d :: r => uptoBulk d + uptoBulkAll r
def uptoBulkEntries {H : Type} : List (Lit × DataW H) → Nat
  | [] => 0
  | x :: r => uptoBulkEntry x + uptoBulkEntries r
def uptoBulkEntry {H : Type} : Lit × DataW H → Nat
  | (.string bytes, d) => bytes.length + uptoBulk d + 1
  | (_, d) => uptoBulk d + 1
 end
def uptoSmall : (H : Type) → List (DataW H) → Bool := fun _ ds => decide (uptoBulkAll ds ≤ 1048576)
def OpenSpec.upto (s : _root_.Go.ChangeSpec) : _root_.Go.OpenSpec := { _root_.Go.OpenSpec.ofChange s with cond := some uptoSmall }

/-- 'cauterylaw29.ClockJoin', WHERE WHAT IT READS IS OF BULK AT MOST 1048576: true; the input reads as it did. -/
def clockJoinUptoRow : OpenClaim := { program := "ythlggjchgngefaa", sum := "6c0a4dab2c333fcc5673188e298f6e1acaa77ae3a30e9eb87ae4989667956ee3", func := "cautery/cauterylaw29.ClockJoin", spec := "clockJoin", unfollowed := true, recurses := true, apart := false, narrowed := true }
def ClockJoinUptoSaid : Prop := clockJoinUptoRow.holds Try.pinned (OpenSpec.upto clockJoinSpec)

/-- 'cauterylaw29.ClockParse', WHERE WHAT IT READS IS OF BULK AT MOST 1048576: true; the input reads as it did. -/
def clockParseUptoRow : OpenClaim := { program := "ythlggjchgngefaa", sum := "6c0a4dab2c333fcc5673188e298f6e1acaa77ae3a30e9eb87ae4989667956ee3", func := "cautery/cauterylaw29.ClockParse", spec := "clockParse", unfollowed := true, recurses := true, apart := false, narrowed := true }
def ClockParseUptoSaid : Prop := clockParseUptoRow.holds Try.pinned (OpenSpec.upto clockParseSpec)

/-- 'cauterylaw29.ClockBack', WHERE WHAT IT READS IS OF BULK AT MOST 1048576: true; the input reads as it did. -/
def clockBackUptoRow : OpenClaim := { program := "ythlggjchgngefaa", sum := "6c0a4dab2c333fcc5673188e298f6e1acaa77ae3a30e9eb87ae4989667956ee3", func := "cautery/cauterylaw29.ClockBack", spec := "clockBack", unfollowed := true, recurses := true, apart := false, narrowed := true }
def ClockBackUptoSaid : Prop := clockBackUptoRow.holds Try.pinned (OpenSpec.upto clockBackSpec)

/-- 'cauterylaw29.ClockTold', WHERE WHAT IT READS IS OF BULK AT MOST 1048576: true; the input reads as it did. -/
def clockToldUptoRow : OpenClaim := { program := "ythlggjchgngefaa", sum := "6c0a4dab2c333fcc5673188e298f6e1acaa77ae3a30e9eb87ae4989667956ee3", func := "cautery/cauterylaw29.ClockTold", spec := "clockTold", unfollowed := true, recurses := true, apart := false, narrowed := true }
def ClockToldUptoSaid : Prop := clockToldUptoRow.holds Try.pinned (OpenSpec.upto clockToldSpec)

/-- 'cauterylaw29.ClockLater', WHERE WHAT IT READS IS OF BULK AT MOST 1048576: true; the input reads as it did. -/
def clockLaterUptoRow : OpenClaim := { program := "ythlggjchgngefaa", sum := "6c0a4dab2c333fcc5673188e298f6e1acaa77ae3a30e9eb87ae4989667956ee3", func := "cautery/cauterylaw29.ClockLater", spec := "clockLater", unfollowed := true, recurses := true, apart := false, narrowed := true }
def ClockLaterUptoSaid : Prop := clockLaterUptoRow.holds Try.pinned (OpenSpec.upto clockLaterSpec)

end Rows
end Go.Proofs.Ythlggjchgngefaa
