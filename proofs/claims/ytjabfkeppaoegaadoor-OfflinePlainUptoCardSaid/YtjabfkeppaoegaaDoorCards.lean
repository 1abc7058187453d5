/-
  DERIVED. GIVEN WITH THE SEED: THE CARDS: each row of YtjabfkeppaoegaaDoorRows.lean that lists a variable, with what it lists TIED to the program's text (the seventh form; the later family's looks); each row that meets fmt, with fmt's text TOLD by the authors' own Lean function (tested against real Go, not proved from fmt's source: count such statements apart). THE CARD IS WHAT COUNTS. Prove the row's statement (the work); the ties are given (YtjabfkeppaoegaaDoorTie.lean); close each card by the builder's one call (the guide's Derived/Test/ToyasCard.lean, 'card_holds'). Laid BY PROGRAM, IN A SANDBOX (cutbox-door.mjs). By AI agents, Wed Nov 11 2026. No macro, syntax, notation, axiom, sorry.
-/
import Derived.Test.YtjabfkeppaoegaaDoorRows
import GoSem.ClaimSeven
namespace Go.Proofs.YtjabfkeppaoegaaDoor
namespace Rows

/-- THE TIED CARD OF 'sluicewaylaw09.OfflineTells'. -/
def offlineTellsCard : Claim7 := { stood := { row := offlineTellsRow, standIns := [], harness := (true, "66f1ee763de90775ce264ddc097f1139018a3b6faebfb946d6d75376e1b3a9a1"), looks := false }, kinds := [], alts := [], laidByText := true, laidKinds := [.data, .data, .data, .data], laidTests := true, laidLooks := .later }
def OfflineTellsCardSaid : Prop := Claim7.holds Tryd.pinned (.plain (OpenSpec.ofChange offlineTellsSpec)) offlineTellsCard

/-- THE TIED CARD OF 'sluicewaylaw09.OfflineOrder'. -/
def offlineOrderCard : Claim7 := { stood := { row := offlineOrderRow, standIns := [], harness := (true, "66f1ee763de90775ce264ddc097f1139018a3b6faebfb946d6d75376e1b3a9a1"), looks := false }, kinds := [], alts := [], laidByText := true, laidKinds := [.data, .data, .data, .data], laidTests := true, laidLooks := .later }
def OfflineOrderCardSaid : Prop := Claim7.holds Tryd.pinned (.plain (OpenSpec.ofChange offlineOrderSpec)) offlineOrderCard

/-- THE TIED CARD OF 'sluicewaylaw09.OfflineKnown'. -/
def offlineKnownCard : Claim7 := { stood := { row := offlineKnownRow, standIns := [], harness := (true, "66f1ee763de90775ce264ddc097f1139018a3b6faebfb946d6d75376e1b3a9a1"), looks := false }, kinds := [], alts := [], laidByText := true, laidKinds := [.data, .data, .data, .data], laidTests := true, laidLooks := .later }
def OfflineKnownCardSaid : Prop := Claim7.holds Tryd.pinned (.plain (OpenSpec.ofChange offlineKnownSpec)) offlineKnownCard

/-- THE TIED CARD OF 'sluicewaylaw09.OfflineTests'. -/
def offlineTestsCard : Claim7 := { stood := { row := offlineTestsRow, standIns := [], harness := (true, "66f1ee763de90775ce264ddc097f1139018a3b6faebfb946d6d75376e1b3a9a1"), looks := false }, kinds := [], alts := [], laidByText := true, laidKinds := [.data, .data, .data, .data], laidTests := true, laidLooks := .later }
def OfflineTestsCardSaid : Prop := Claim7.holds Tryd.pinned (.plain (OpenSpec.ofChange offlineTestsSpec)) offlineTestsCard

/-- THE TIED CARD OF 'sluicewaylaw09.OfflinePlain'. -/
def offlinePlainCard : Claim7 := { stood := { row := offlinePlainRow, standIns := [], harness := (true, "66f1ee763de90775ce264ddc097f1139018a3b6faebfb946d6d75376e1b3a9a1"), looks := false }, kinds := [], alts := [], laidByText := true, laidKinds := [.data, .data, .data, .data], laidTests := true, laidLooks := .later }
def OfflinePlainCardSaid : Prop := Claim7.holds Tryd.pinned (.plain (OpenSpec.ofChange offlinePlainSpec)) offlinePlainCard

/-- THE TIED CARD OF 'sluicewaylaw09.OfflineFresh'. -/
def offlineFreshCard : Claim7 := { stood := { row := offlineFreshRow, standIns := [], harness := (true, "66f1ee763de90775ce264ddc097f1139018a3b6faebfb946d6d75376e1b3a9a1"), looks := false }, kinds := [], alts := [], laidByText := true, laidKinds := [.data, .data, .data, .data], laidTests := true, laidLooks := .later }
def OfflineFreshCardSaid : Prop := Claim7.holds Tryd.pinned (.plain (OpenSpec.ofChange offlineFreshSpec)) offlineFreshCard

/-- THE TIED CARD OF 'sluicewaylaw09.OfflineWeak'. -/
def offlineWeakCard : Claim7 := { stood := { row := offlineWeakRow, standIns := [], harness := (true, "66f1ee763de90775ce264ddc097f1139018a3b6faebfb946d6d75376e1b3a9a1"), looks := false }, kinds := [], alts := [], laidByText := true, laidKinds := [.data, .data, .data, .data], laidTests := true, laidLooks := .later }
def OfflineWeakCardSaid : Prop := Claim7.holds Tryd.pinned (.plain (OpenSpec.ofChange offlineWeakSpec)) offlineWeakCard

/-- THE TIED CARD OF 'sluicewaylaw09.OfflineShut'. -/
def offlineShutCard : Claim7 := { stood := { row := offlineShutRow, standIns := [], harness := (true, "66f1ee763de90775ce264ddc097f1139018a3b6faebfb946d6d75376e1b3a9a1"), looks := false }, kinds := [], alts := [], laidByText := true, laidKinds := [.data, .data, .data, .data], laidTests := true, laidLooks := .later }
def OfflineShutCardSaid : Prop := Claim7.holds Tryd.pinned (.plain (OpenSpec.ofChange offlineShutSpec)) offlineShutCard

/-- THE SECOND FORM's CARD OF 'sluicewaylaw09.OfflineTells'. -/
def offlineTellsUptoCard : Claim7 := { stood := { row := offlineTellsUptoRow, standIns := [], harness := (true, "66f1ee763de90775ce264ddc097f1139018a3b6faebfb946d6d75376e1b3a9a1"), looks := false }, kinds := [], alts := [], laidByText := true, laidKinds := [.data, .data, .data, .data], laidTests := true, laidLooks := .later }
def OfflineTellsUptoCardSaid : Prop := Claim7.holds Tryd.pinned (.plain (OpenSpec.upto offlineTellsSpec)) offlineTellsUptoCard

/-- THE SECOND FORM's CARD OF 'sluicewaylaw09.OfflineOrder'. -/
def offlineOrderUptoCard : Claim7 := { stood := { row := offlineOrderUptoRow, standIns := [], harness := (true, "66f1ee763de90775ce264ddc097f1139018a3b6faebfb946d6d75376e1b3a9a1"), looks := false }, kinds := [], alts := [], laidByText := true, laidKinds := [.data, .data, .data, .data], laidTests := true, laidLooks := .later }
def OfflineOrderUptoCardSaid : Prop := Claim7.holds Tryd.pinned (.plain (OpenSpec.upto offlineOrderSpec)) offlineOrderUptoCard

/-- THE SECOND FORM's CARD OF 'sluicewaylaw09.OfflineKnown'. -/
def offlineKnownUptoCard : Claim7 := { stood := { row := offlineKnownUptoRow, standIns := [], harness := (true, "66f1ee763de90775ce264ddc097f1139018a3b6faebfb946d6d75376e1b3a9a1"), looks := false }, kinds := [], alts := [], laidByText := true, laidKinds := [.data, .data, .data, .data], laidTests := true, laidLooks := .later }
def OfflineKnownUptoCardSaid : Prop := Claim7.holds Tryd.pinned (.plain (OpenSpec.upto offlineKnownSpec)) offlineKnownUptoCard

/-- THE SECOND FORM's CARD OF 'sluicewaylaw09.OfflineTests'. -/
def offlineTestsUptoCard : Claim7 := { stood := { row := offlineTestsUptoRow, standIns := [], harness := (true, "66f1ee763de90775ce264ddc097f1139018a3b6faebfb946d6d75376e1b3a9a1"), looks := false }, kinds := [], alts := [], laidByText := true, laidKinds := [.data, .data, .data, .data], laidTests := true, laidLooks := .later }
def OfflineTestsUptoCardSaid : Prop := Claim7.holds Tryd.pinned (.plain (OpenSpec.upto offlineTestsSpec)) offlineTestsUptoCard

/-- THE SECOND FORM's CARD OF 'sluicewaylaw09.OfflinePlain'. -/
def offlinePlainUptoCard : Claim7 := { stood := { row := offlinePlainUptoRow, standIns := [], harness := (true, "66f1ee763de90775ce264ddc097f1139018a3b6faebfb946d6d75376e1b3a9a1"), looks := false }, kinds := [], alts := [], laidByText := true, laidKinds := [.data, .data, .data, .data], laidTests := true, laidLooks := .later }
def OfflinePlainUptoCardSaid : Prop := Claim7.holds Tryd.pinned (.plain (OpenSpec.upto offlinePlainSpec)) offlinePlainUptoCard

/-- THE SECOND FORM's CARD OF 'sluicewaylaw09.OfflineFresh'. -/
def offlineFreshUptoCard : Claim7 := { stood := { row := offlineFreshUptoRow, standIns := [], harness := (true, "66f1ee763de90775ce264ddc097f1139018a3b6faebfb946d6d75376e1b3a9a1"), looks := false }, kinds := [], alts := [], laidByText := true, laidKinds := [.data, .data, .data, .data], laidTests := true, laidLooks := .later }
def OfflineFreshUptoCardSaid : Prop := Claim7.holds Tryd.pinned (.plain (OpenSpec.upto offlineFreshSpec)) offlineFreshUptoCard

/-- THE SECOND FORM's CARD OF 'sluicewaylaw09.OfflineWeak'. -/
def offlineWeakUptoCard : Claim7 := { stood := { row := offlineWeakUptoRow, standIns := [], harness := (true, "66f1ee763de90775ce264ddc097f1139018a3b6faebfb946d6d75376e1b3a9a1"), looks := false }, kinds := [], alts := [], laidByText := true, laidKinds := [.data, .data, .data, .data], laidTests := true, laidLooks := .later }
def OfflineWeakUptoCardSaid : Prop := Claim7.holds Tryd.pinned (.plain (OpenSpec.upto offlineWeakSpec)) offlineWeakUptoCard

/-- THE SECOND FORM's CARD OF 'sluicewaylaw09.OfflineShut'. -/
def offlineShutUptoCard : Claim7 := { stood := { row := offlineShutUptoRow, standIns := [], harness := (true, "66f1ee763de90775ce264ddc097f1139018a3b6faebfb946d6d75376e1b3a9a1"), looks := false }, kinds := [], alts := [], laidByText := true, laidKinds := [.data, .data, .data, .data], laidTests := true, laidLooks := .later }
def OfflineShutUptoCardSaid : Prop := Claim7.holds Tryd.pinned (.plain (OpenSpec.upto offlineShutSpec)) offlineShutUptoCard
end Rows
end Go.Proofs.YtjabfkeppaoegaaDoor
