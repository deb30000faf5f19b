/-
  DERIVED. GIVEN WITH THE SEED: THE CARDS: each row of YtdmlldhlfofegaaDoorRows.lean that lists a variable, with what it lists TIED to the program's text (the seventh form; the later family's looks); each row that meets fmt, with fmt's text TOLD by the authors' own Lean function (tested against real Go, not proved from fmt's source: count such statements apart). THE CARD IS WHAT COUNTS. Prove the row's statement (the work); the ties are given (YtdmlldhlfofegaaDoorTie.lean); close each card by the builder's one call (the guide's Derived/Test/ToyasCard.lean, 'card_holds'). Laid BY PROGRAM, IN A SANDBOX (cutbox-door.mjs). By AI agents, Wed Nov 11 2026. No macro, syntax, notation, axiom, sorry.
-/
import Derived.Test.YtdmlldhlfofegaaDoorRows
import GoSem.ClaimSeven
namespace Go.Proofs.YtdmlldhlfofegaaDoor
namespace Rows

/-- THE TIED CARD OF 'cauterylaw06.SpaceTaken'. -/
def spaceTakenCard : Claim7 := { stood := { row := spaceTakenRow, standIns := [], harness := (true, "f6beedaf527e1e39d7497ef777c171aa5cc019ad77cfe2b0fa1c7d7542a79056"), looks := false }, kinds := [], alts := [], laidByText := true, laidKinds := [.data], laidTests := true, laidLooks := .later }
def SpaceTakenCardSaid : Prop := Claim7.holds Tryd.pinned (.plain (OpenSpec.ofChange spaceTakenSpec)) spaceTakenCard

/-- THE TIED CARD OF 'cauterylaw06.SpacePlays'. -/
def spacePlaysCard : Claim7 := { stood := { row := spacePlaysRow, standIns := [], harness := (true, "f6beedaf527e1e39d7497ef777c171aa5cc019ad77cfe2b0fa1c7d7542a79056"), looks := false }, kinds := [], alts := [], laidByText := true, laidKinds := [.data], laidTests := true, laidLooks := .later }
def SpacePlaysCardSaid : Prop := Claim7.holds Tryd.pinned (.plain (OpenSpec.ofChange spacePlaysSpec)) spacePlaysCard

/-- THE TIED CARD OF 'cauterylaw06.SpaceNil'. -/
def spaceNilCard : Claim7 := { stood := { row := spaceNilRow, standIns := [], harness := (true, "f6beedaf527e1e39d7497ef777c171aa5cc019ad77cfe2b0fa1c7d7542a79056"), looks := false }, kinds := [], alts := [], laidByText := true, laidKinds := [.data], laidTests := true, laidLooks := .later }
def SpaceNilCardSaid : Prop := Claim7.holds Tryd.pinned (.plain (OpenSpec.ofChange spaceNilSpec)) spaceNilCard

/-- THE TIED CARD OF 'cauterylaw06.SpaceLoad'. -/
def spaceLoadCard : Claim7 := { stood := { row := spaceLoadRow, standIns := [], harness := (true, "f6beedaf527e1e39d7497ef777c171aa5cc019ad77cfe2b0fa1c7d7542a79056"), looks := false }, kinds := [], alts := [], laidByText := true, laidKinds := [.data], laidTests := true, laidLooks := .later }
def SpaceLoadCardSaid : Prop := Claim7.holds Tryd.pinned (.plain (OpenSpec.ofChange spaceLoadSpec)) spaceLoadCard

/-- THE TIED CARD OF 'cauterylaw06.SpaceBack'. -/
def spaceBackCard : Claim7 := { stood := { row := spaceBackRow, standIns := [], harness := (true, "f6beedaf527e1e39d7497ef777c171aa5cc019ad77cfe2b0fa1c7d7542a79056"), looks := false }, kinds := [], alts := [], laidByText := true, laidKinds := [.data], laidTests := true, laidLooks := .later }
def SpaceBackCardSaid : Prop := Claim7.holds Tryd.pinned (.plain (OpenSpec.ofChange spaceBackSpec)) spaceBackCard

/-- THE SECOND FORM's CARD OF 'cauterylaw06.SpaceTaken'. -/
def spaceTakenUptoCard : Claim7 := { stood := { row := spaceTakenUptoRow, standIns := [], harness := (true, "f6beedaf527e1e39d7497ef777c171aa5cc019ad77cfe2b0fa1c7d7542a79056"), looks := false }, kinds := [], alts := [], laidByText := true, laidKinds := [.data], laidTests := true, laidLooks := .later }
def SpaceTakenUptoCardSaid : Prop := Claim7.holds Tryd.pinned (.plain (OpenSpec.upto spaceTakenSpec)) spaceTakenUptoCard

/-- THE SECOND FORM's CARD OF 'cauterylaw06.SpacePlays'. -/
def spacePlaysUptoCard : Claim7 := { stood := { row := spacePlaysUptoRow, standIns := [], harness := (true, "f6beedaf527e1e39d7497ef777c171aa5cc019ad77cfe2b0fa1c7d7542a79056"), looks := false }, kinds := [], alts := [], laidByText := true, laidKinds := [.data], laidTests := true, laidLooks := .later }
def SpacePlaysUptoCardSaid : Prop := Claim7.holds Tryd.pinned (.plain (OpenSpec.upto spacePlaysSpec)) spacePlaysUptoCard

/-- THE SECOND FORM's CARD OF 'cauterylaw06.SpaceNil'. -/
def spaceNilUptoCard : Claim7 := { stood := { row := spaceNilUptoRow, standIns := [], harness := (true, "f6beedaf527e1e39d7497ef777c171aa5cc019ad77cfe2b0fa1c7d7542a79056"), looks := false }, kinds := [], alts := [], laidByText := true, laidKinds := [.data], laidTests := true, laidLooks := .later }
def SpaceNilUptoCardSaid : Prop := Claim7.holds Tryd.pinned (.plain (OpenSpec.upto spaceNilSpec)) spaceNilUptoCard

/-- THE SECOND FORM's CARD OF 'cauterylaw06.SpaceLoad'. -/
def spaceLoadUptoCard : Claim7 := { stood := { row := spaceLoadUptoRow, standIns := [], harness := (true, "f6beedaf527e1e39d7497ef777c171aa5cc019ad77cfe2b0fa1c7d7542a79056"), looks := false }, kinds := [], alts := [], laidByText := true, laidKinds := [.data], laidTests := true, laidLooks := .later }
def SpaceLoadUptoCardSaid : Prop := Claim7.holds Tryd.pinned (.plain (OpenSpec.upto spaceLoadSpec)) spaceLoadUptoCard

/-- THE SECOND FORM's CARD OF 'cauterylaw06.SpaceBack'. -/
def spaceBackUptoCard : Claim7 := { stood := { row := spaceBackUptoRow, standIns := [], harness := (true, "f6beedaf527e1e39d7497ef777c171aa5cc019ad77cfe2b0fa1c7d7542a79056"), looks := false }, kinds := [], alts := [], laidByText := true, laidKinds := [.data], laidTests := true, laidLooks := .later }
def SpaceBackUptoCardSaid : Prop := Claim7.holds Tryd.pinned (.plain (OpenSpec.upto spaceBackSpec)) spaceBackUptoCard
end Rows
end Go.Proofs.YtdmlldhlfofegaaDoor
