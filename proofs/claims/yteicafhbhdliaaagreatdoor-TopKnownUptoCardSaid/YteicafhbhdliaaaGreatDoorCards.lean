/-
  DERIVED. GIVEN WITH THE SEED: THE CARDS: each row of YteicafhbhdliaaaGreatDoorRows.lean that lists a variable, with what it lists TIED to the program's text (the seventh form; the later family's looks); each row that meets fmt, with fmt's text TOLD by the authors' own Lean function (tested against real Go, not proved from fmt's source: count such statements apart). THE CARD IS WHAT COUNTS. Prove the row's statement (the work); the ties are given (YteicafhbhdliaaaGreatDoorTie.lean); close each card by the builder's one call (the guide's Derived/Test/ToyasCard.lean, 'card_holds'). Laid BY PROGRAM, IN A SANDBOX (cutbox-door.mjs). By AI agents, Wed Nov 11 2026. No macro, syntax, notation, axiom, sorry.
-/
import Derived.Test.YteicafhbhdliaaaGreatDoorRows
import GoSem.ClaimSeven
namespace Go.Proofs.YteicafhbhdliaaaGreatDoor
namespace Rows

/-- THE TIED CARD OF 'sluicewaytop.TopTickets'. -/
def topTicketsCard : Claim7 := { stood := { row := topTicketsRow, standIns := [], harness := (true, "dcf0d020b89b679202e9d161a8883063979492a5789bdbea74868c491dc04488"), looks := true }, kinds := [], alts := [], laidByText := true, laidKinds := [.data, .data, .data, .sentinel, .sentinel, .data], laidTests := true, laidLooks := .later }
def TopTicketsCardSaid : Prop := Claim7.holds Tryz.pinned (.plain (OpenSpec.ofChange topTicketsSpec)) topTicketsCard

/-- THE TIED CARD OF 'sluicewaytop.TopKnown'. -/
def topKnownCard : Claim7 := { stood := { row := topKnownRow, standIns := [], harness := (true, "dcf0d020b89b679202e9d161a8883063979492a5789bdbea74868c491dc04488"), looks := true }, kinds := [], alts := [], laidByText := true, laidKinds := [.data, .data, .data, .sentinel, .sentinel, .data], laidTests := true, laidLooks := .later }
def TopKnownCardSaid : Prop := Claim7.holds Tryz.pinned (.plain (OpenSpec.ofChange topKnownSpec)) topKnownCard

/-- THE SECOND FORM's CARD OF 'sluicewaytop.TopTickets'. -/
def topTicketsUptoCard : Claim7 := { stood := { row := topTicketsUptoRow, standIns := [], harness := (true, "dcf0d020b89b679202e9d161a8883063979492a5789bdbea74868c491dc04488"), looks := true }, kinds := [], alts := [], laidByText := true, laidKinds := [.data, .data, .data, .sentinel, .sentinel, .data], laidTests := true, laidLooks := .later }
def TopTicketsUptoCardSaid : Prop := Claim7.holds Tryz.pinned (.plain (OpenSpec.upto topTicketsSpec)) topTicketsUptoCard

/-- THE SECOND FORM's CARD OF 'sluicewaytop.TopKnown'. -/
def topKnownUptoCard : Claim7 := { stood := { row := topKnownUptoRow, standIns := [], harness := (true, "dcf0d020b89b679202e9d161a8883063979492a5789bdbea74868c491dc04488"), looks := true }, kinds := [], alts := [], laidByText := true, laidKinds := [.data, .data, .data, .sentinel, .sentinel, .data], laidTests := true, laidLooks := .later }
def TopKnownUptoCardSaid : Prop := Claim7.holds Tryz.pinned (.plain (OpenSpec.upto topKnownSpec)) topKnownUptoCard
end Rows
end Go.Proofs.YteicafhbhdliaaaGreatDoor
