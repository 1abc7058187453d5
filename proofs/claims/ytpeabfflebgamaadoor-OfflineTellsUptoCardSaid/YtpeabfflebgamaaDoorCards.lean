/-
  DERIVED. GIVEN WITH THE SEED: THE CARDS: each row of YtpeabfflebgamaaDoorRows.lean that lists a variable, with what it lists TIED to the program's text (the seventh form; the later family's looks); each row that meets fmt, with fmt's text TOLD by the authors' own Lean function (tested against real Go, not proved from fmt's source: count such statements apart). THE CARD IS WHAT COUNTS. Prove the row's statement (the work); the ties are given (YtpeabfflebgamaaDoorTie.lean); close each card by the builder's one call (the guide's Derived/Test/ToyasCard.lean, 'card_holds'). Laid BY PROGRAM, IN A SANDBOX (cutbox-door.mjs). By AI agents, Wed Nov 11 2026. No macro, syntax, notation, axiom, sorry.
-/
import Derived.Test.YtpeabfflebgamaaDoorRows
import GoSem.ClaimSeven
namespace Go.Proofs.YtpeabfflebgamaaDoor
namespace Rows

/-- THE TIED CARD OF 'sluicewaylaw08.DeduceTells'. -/
def deduceTellsCard : Claim7 := { stood := { row := deduceTellsRow, standIns := [], harness := (true, "e817957f646cb79fcced37d3a832d03b4b3ab3d1dab977125a6576a63b7b8558"), looks := false }, kinds := [], alts := [], laidByText := true, laidKinds := [.data, .data, .data, .data], laidTests := true, laidLooks := .later }
def DeduceTellsCardSaid : Prop := Claim7.holds Tryd.pinned (.plain (OpenSpec.ofChange deduceTellsSpec)) deduceTellsCard

/-- THE TIED CARD OF 'sluicewaylaw09.OfflineTells'. -/
def offlineTellsCard : Claim7 := { stood := { row := offlineTellsRow, standIns := [], harness := (true, "e817957f646cb79fcced37d3a832d03b4b3ab3d1dab977125a6576a63b7b8558"), looks := false }, kinds := [], alts := [], laidByText := true, laidKinds := [.data, .data, .data, .data], laidTests := true, laidLooks := .later }
def OfflineTellsCardSaid : Prop := Claim7.holds Tryd.pinned (.plain (OpenSpec.ofChange offlineTellsSpec)) offlineTellsCard

/-- THE SECOND FORM's CARD OF 'sluicewaylaw08.DeduceTells'. -/
def deduceTellsUptoCard : Claim7 := { stood := { row := deduceTellsUptoRow, standIns := [], harness := (true, "e817957f646cb79fcced37d3a832d03b4b3ab3d1dab977125a6576a63b7b8558"), looks := false }, kinds := [], alts := [], laidByText := true, laidKinds := [.data, .data, .data, .data], laidTests := true, laidLooks := .later }
def DeduceTellsUptoCardSaid : Prop := Claim7.holds Tryd.pinned (.plain (OpenSpec.upto deduceTellsSpec)) deduceTellsUptoCard

/-- THE SECOND FORM's CARD OF 'sluicewaylaw09.OfflineTells'. -/
def offlineTellsUptoCard : Claim7 := { stood := { row := offlineTellsUptoRow, standIns := [], harness := (true, "e817957f646cb79fcced37d3a832d03b4b3ab3d1dab977125a6576a63b7b8558"), looks := false }, kinds := [], alts := [], laidByText := true, laidKinds := [.data, .data, .data, .data], laidTests := true, laidLooks := .later }
def OfflineTellsUptoCardSaid : Prop := Claim7.holds Tryd.pinned (.plain (OpenSpec.upto offlineTellsSpec)) offlineTellsUptoCard
end Rows
end Go.Proofs.YtpeabfflebgamaaDoor
