/-
  DERIVED. GIVEN WITH THE SEED: THE CARDS: each row of YtakehleacibfiaaDoorRows.lean that lists a variable, with what it lists TIED to the program's text (the seventh form; the later family's looks); each row that meets fmt, with fmt's text TOLD by the authors' own Lean function (tested against real Go, not proved from fmt's source: count such statements apart). THE CARD IS WHAT COUNTS. Prove the row's statement (the work); the ties are given (YtakehleacibfiaaDoorTie.lean); close each card by the builder's one call (the guide's Derived/Test/ToyasCard.lean, 'card_holds'). Laid BY PROGRAM, IN A SANDBOX (cutbox-door.mjs). By AI agents, Wed Nov 11 2026. No macro, syntax, notation, axiom, sorry.
-/
import Derived.Test.YtakehleacibfiaaDoorRows
import GoSem.ClaimSeven
namespace Go.Proofs.YtakehleacibfiaaDoor
namespace Rows

/-- THE TIED CARD OF 'sluicewaylaw08.DeduceTells'. -/
def deduceTellsCard : Claim7 := { stood := { row := deduceTellsRow, standIns := [], harness := (true, "43b319b3ab434cfcae6436575bb124f1f961488b1f35edc8c74785b09e65479f"), looks := false }, kinds := [], alts := [], laidByText := true, laidKinds := [.data, .data, .data, .data], laidTests := true, laidLooks := .later }
def DeduceTellsCardSaid : Prop := Claim7.holds Tryd.pinned (.plain (OpenSpec.ofChange deduceTellsSpec)) deduceTellsCard

/-- THE TIED CARD OF 'sluicewaylaw08.DeduceTold'. -/
def deduceToldCard : Claim7 := { stood := { row := deduceToldRow, standIns := [], harness := (true, "43b319b3ab434cfcae6436575bb124f1f961488b1f35edc8c74785b09e65479f"), looks := false }, kinds := [], alts := [], laidByText := true, laidKinds := [.data, .data, .data, .data], laidTests := true, laidLooks := .later }
def DeduceToldCardSaid : Prop := Claim7.holds Tryd.pinned (.plain (OpenSpec.ofChange deduceToldSpec)) deduceToldCard

/-- THE TIED CARD OF 'sluicewaylaw08.DeduceShares'. -/
def deduceSharesCard : Claim7 := { stood := { row := deduceSharesRow, standIns := [], harness := (true, "43b319b3ab434cfcae6436575bb124f1f961488b1f35edc8c74785b09e65479f"), looks := false }, kinds := [], alts := [], laidByText := true, laidKinds := [.data, .data, .data, .data], laidTests := true, laidLooks := .later }
def DeduceSharesCardSaid : Prop := Claim7.holds Tryd.pinned (.plain (OpenSpec.ofChange deduceSharesSpec)) deduceSharesCard

/-- THE TIED CARD OF 'sluicewaylaw08.DeduceFresh'. -/
def deduceFreshCard : Claim7 := { stood := { row := deduceFreshRow, standIns := [], harness := (true, "43b319b3ab434cfcae6436575bb124f1f961488b1f35edc8c74785b09e65479f"), looks := false }, kinds := [], alts := [], laidByText := true, laidKinds := [.data, .data, .data, .data], laidTests := true, laidLooks := .later }
def DeduceFreshCardSaid : Prop := Claim7.holds Tryd.pinned (.plain (OpenSpec.ofChange deduceFreshSpec)) deduceFreshCard

/-- THE TIED CARD OF 'sluicewaylaw08.DeduceKept'. -/
def deduceKeptCard : Claim7 := { stood := { row := deduceKeptRow, standIns := [], harness := (true, "43b319b3ab434cfcae6436575bb124f1f961488b1f35edc8c74785b09e65479f"), looks := false }, kinds := [], alts := [], laidByText := true, laidKinds := [.data, .data, .data, .data], laidTests := true, laidLooks := .later }
def DeduceKeptCardSaid : Prop := Claim7.holds Tryd.pinned (.plain (OpenSpec.ofChange deduceKeptSpec)) deduceKeptCard

/-- THE TIED CARD OF 'sluicewaylaw08.DeduceAtoms'. -/
def deduceAtomsCard : Claim7 := { stood := { row := deduceAtomsRow, standIns := [], harness := (true, "43b319b3ab434cfcae6436575bb124f1f961488b1f35edc8c74785b09e65479f"), looks := false }, kinds := [], alts := [], laidByText := true, laidKinds := [.data, .data, .data, .data], laidTests := true, laidLooks := .later }
def DeduceAtomsCardSaid : Prop := Claim7.holds Tryd.pinned (.plain (OpenSpec.ofChange deduceAtomsSpec)) deduceAtomsCard

/-- THE TIED CARD OF 'sluicewaylaw08.DeduceChains'. -/
def deduceChainsCard : Claim7 := { stood := { row := deduceChainsRow, standIns := [], harness := (true, "43b319b3ab434cfcae6436575bb124f1f961488b1f35edc8c74785b09e65479f"), looks := false }, kinds := [], alts := [], laidByText := true, laidKinds := [.data, .data, .data, .data], laidTests := true, laidLooks := .later }
def DeduceChainsCardSaid : Prop := Claim7.holds Tryd.pinned (.plain (OpenSpec.ofChange deduceChainsSpec)) deduceChainsCard

/-- THE TIED CARD OF 'sluicewaylaw08.DeduceData'. -/
def deduceDataCard : Claim7 := { stood := { row := deduceDataRow, standIns := [], harness := (true, "43b319b3ab434cfcae6436575bb124f1f961488b1f35edc8c74785b09e65479f"), looks := false }, kinds := [], alts := [], laidByText := true, laidKinds := [.data, .data, .data, .data], laidTests := true, laidLooks := .later }
def DeduceDataCardSaid : Prop := Claim7.holds Tryd.pinned (.plain (OpenSpec.ofChange deduceDataSpec)) deduceDataCard

/-- THE TIED CARD OF 'sluicewaylaw08.DeduceMore'. -/
def deduceMoreCard : Claim7 := { stood := { row := deduceMoreRow, standIns := [], harness := (true, "43b319b3ab434cfcae6436575bb124f1f961488b1f35edc8c74785b09e65479f"), looks := false }, kinds := [], alts := [], laidByText := true, laidKinds := [.data, .data, .data, .data], laidTests := true, laidLooks := .later }
def DeduceMoreCardSaid : Prop := Claim7.holds Tryd.pinned (.plain (OpenSpec.ofChange deduceMoreSpec)) deduceMoreCard

/-- THE TIED CARD OF 'sluicewaylaw08.DeduceClosed'. -/
def deduceClosedCard : Claim7 := { stood := { row := deduceClosedRow, standIns := [], harness := (true, "43b319b3ab434cfcae6436575bb124f1f961488b1f35edc8c74785b09e65479f"), looks := false }, kinds := [], alts := [], laidByText := true, laidKinds := [.data, .data, .data, .data], laidTests := true, laidLooks := .later }
def DeduceClosedCardSaid : Prop := Claim7.holds Tryd.pinned (.plain (OpenSpec.ofChange deduceClosedSpec)) deduceClosedCard

/-- THE TIED CARD OF 'sluicewaylaw08.DeduceWithin'. -/
def deduceWithinCard : Claim7 := { stood := { row := deduceWithinRow, standIns := [], harness := (true, "43b319b3ab434cfcae6436575bb124f1f961488b1f35edc8c74785b09e65479f"), looks := false }, kinds := [], alts := [], laidByText := true, laidKinds := [.data, .data, .data, .data], laidTests := true, laidLooks := .later }
def DeduceWithinCardSaid : Prop := Claim7.holds Tryd.pinned (.plain (OpenSpec.ofChange deduceWithinSpec)) deduceWithinCard

/-- THE SECOND FORM's CARD OF 'sluicewaylaw08.DeduceTells'. -/
def deduceTellsUptoCard : Claim7 := { stood := { row := deduceTellsUptoRow, standIns := [], harness := (true, "43b319b3ab434cfcae6436575bb124f1f961488b1f35edc8c74785b09e65479f"), looks := false }, kinds := [], alts := [], laidByText := true, laidKinds := [.data, .data, .data, .data], laidTests := true, laidLooks := .later }
def DeduceTellsUptoCardSaid : Prop := Claim7.holds Tryd.pinned (.plain (OpenSpec.upto deduceTellsSpec)) deduceTellsUptoCard

/-- THE SECOND FORM's CARD OF 'sluicewaylaw08.DeduceTold'. -/
def deduceToldUptoCard : Claim7 := { stood := { row := deduceToldUptoRow, standIns := [], harness := (true, "43b319b3ab434cfcae6436575bb124f1f961488b1f35edc8c74785b09e65479f"), looks := false }, kinds := [], alts := [], laidByText := true, laidKinds := [.data, .data, .data, .data], laidTests := true, laidLooks := .later }
def DeduceToldUptoCardSaid : Prop := Claim7.holds Tryd.pinned (.plain (OpenSpec.upto deduceToldSpec)) deduceToldUptoCard

/-- THE SECOND FORM's CARD OF 'sluicewaylaw08.DeduceShares'. -/
def deduceSharesUptoCard : Claim7 := { stood := { row := deduceSharesUptoRow, standIns := [], harness := (true, "43b319b3ab434cfcae6436575bb124f1f961488b1f35edc8c74785b09e65479f"), looks := false }, kinds := [], alts := [], laidByText := true, laidKinds := [.data, .data, .data, .data], laidTests := true, laidLooks := .later }
def DeduceSharesUptoCardSaid : Prop := Claim7.holds Tryd.pinned (.plain (OpenSpec.upto deduceSharesSpec)) deduceSharesUptoCard

/-- THE SECOND FORM's CARD OF 'sluicewaylaw08.DeduceFresh'. -/
def deduceFreshUptoCard : Claim7 := { stood := { row := deduceFreshUptoRow, standIns := [], harness := (true, "43b319b3ab434cfcae6436575bb124f1f961488b1f35edc8c74785b09e65479f"), looks := false }, kinds := [], alts := [], laidByText := true, laidKinds := [.data, .data, .data, .data], laidTests := true, laidLooks := .later }
def DeduceFreshUptoCardSaid : Prop := Claim7.holds Tryd.pinned (.plain (OpenSpec.upto deduceFreshSpec)) deduceFreshUptoCard

/-- THE SECOND FORM's CARD OF 'sluicewaylaw08.DeduceKept'. -/
def deduceKeptUptoCard : Claim7 := { stood := { row := deduceKeptUptoRow, standIns := [], harness := (true, "43b319b3ab434cfcae6436575bb124f1f961488b1f35edc8c74785b09e65479f"), looks := false }, kinds := [], alts := [], laidByText := true, laidKinds := [.data, .data, .data, .data], laidTests := true, laidLooks := .later }
def DeduceKeptUptoCardSaid : Prop := Claim7.holds Tryd.pinned (.plain (OpenSpec.upto deduceKeptSpec)) deduceKeptUptoCard

/-- THE SECOND FORM's CARD OF 'sluicewaylaw08.DeduceAtoms'. -/
def deduceAtomsUptoCard : Claim7 := { stood := { row := deduceAtomsUptoRow, standIns := [], harness := (true, "43b319b3ab434cfcae6436575bb124f1f961488b1f35edc8c74785b09e65479f"), looks := false }, kinds := [], alts := [], laidByText := true, laidKinds := [.data, .data, .data, .data], laidTests := true, laidLooks := .later }
def DeduceAtomsUptoCardSaid : Prop := Claim7.holds Tryd.pinned (.plain (OpenSpec.upto deduceAtomsSpec)) deduceAtomsUptoCard

/-- THE SECOND FORM's CARD OF 'sluicewaylaw08.DeduceChains'. -/
def deduceChainsUptoCard : Claim7 := { stood := { row := deduceChainsUptoRow, standIns := [], harness := (true, "43b319b3ab434cfcae6436575bb124f1f961488b1f35edc8c74785b09e65479f"), looks := false }, kinds := [], alts := [], laidByText := true, laidKinds := [.data, .data, .data, .data], laidTests := true, laidLooks := .later }
def DeduceChainsUptoCardSaid : Prop := Claim7.holds Tryd.pinned (.plain (OpenSpec.upto deduceChainsSpec)) deduceChainsUptoCard

/-- THE SECOND FORM's CARD OF 'sluicewaylaw08.DeduceData'. -/
def deduceDataUptoCard : Claim7 := { stood := { row := deduceDataUptoRow, standIns := [], harness := (true, "43b319b3ab434cfcae6436575bb124f1f961488b1f35edc8c74785b09e65479f"), looks := false }, kinds := [], alts := [], laidByText := true, laidKinds := [.data, .data, .data, .data], laidTests := true, laidLooks := .later }
def DeduceDataUptoCardSaid : Prop := Claim7.holds Tryd.pinned (.plain (OpenSpec.upto deduceDataSpec)) deduceDataUptoCard

/-- THE SECOND FORM's CARD OF 'sluicewaylaw08.DeduceMore'. -/
def deduceMoreUptoCard : Claim7 := { stood := { row := deduceMoreUptoRow, standIns := [], harness := (true, "43b319b3ab434cfcae6436575bb124f1f961488b1f35edc8c74785b09e65479f"), looks := false }, kinds := [], alts := [], laidByText := true, laidKinds := [.data, .data, .data, .data], laidTests := true, laidLooks := .later }
def DeduceMoreUptoCardSaid : Prop := Claim7.holds Tryd.pinned (.plain (OpenSpec.upto deduceMoreSpec)) deduceMoreUptoCard

/-- THE SECOND FORM's CARD OF 'sluicewaylaw08.DeduceClosed'. -/
def deduceClosedUptoCard : Claim7 := { stood := { row := deduceClosedUptoRow, standIns := [], harness := (true, "43b319b3ab434cfcae6436575bb124f1f961488b1f35edc8c74785b09e65479f"), looks := false }, kinds := [], alts := [], laidByText := true, laidKinds := [.data, .data, .data, .data], laidTests := true, laidLooks := .later }
def DeduceClosedUptoCardSaid : Prop := Claim7.holds Tryd.pinned (.plain (OpenSpec.upto deduceClosedSpec)) deduceClosedUptoCard

/-- THE SECOND FORM's CARD OF 'sluicewaylaw08.DeduceWithin'. -/
def deduceWithinUptoCard : Claim7 := { stood := { row := deduceWithinUptoRow, standIns := [], harness := (true, "43b319b3ab434cfcae6436575bb124f1f961488b1f35edc8c74785b09e65479f"), looks := false }, kinds := [], alts := [], laidByText := true, laidKinds := [.data, .data, .data, .data], laidTests := true, laidLooks := .later }
def DeduceWithinUptoCardSaid : Prop := Claim7.holds Tryd.pinned (.plain (OpenSpec.upto deduceWithinSpec)) deduceWithinUptoCard
end Rows
end Go.Proofs.YtakehleacibfiaaDoor
