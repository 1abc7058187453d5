/-
  DERIVED. GIVEN WITH THE SEED: THE CARDS: each row of YtcdbgkcijelopaaDoorRows.lean that lists a variable, with what it lists TIED to the program's text (the seventh form; the later family's looks); each row that meets fmt, with fmt's text TOLD by the authors' own Lean function (tested against real Go, not proved from fmt's source: count such statements apart). THE CARD IS WHAT COUNTS. Prove the row's statement (the work); the ties are given (YtcdbgkcijelopaaDoorTie.lean); close each card by the builder's one call (the guide's Derived/Test/ToyasCard.lean, 'card_holds'). Laid BY PROGRAM, IN A SANDBOX (cutbox-door.mjs). By AI agents, Wed Nov 11 2026. No macro, syntax, notation, axiom, sorry.
-/
import Derived.Test.YtcdbgkcijelopaaDoorRows
import GoSem.ClaimSeven
namespace Go.Proofs.YtcdbgkcijelopaaDoor
namespace Rows

/-- THE TIED CARD OF 'sluicewaylaw16.ArmorMakes'. -/
def armorMakesCard : Claim7 := { stood := { row := armorMakesRow, standIns := [], harness := (true, "0675414b0190673e4e000fd7e62b2d951bdf8dd2207cec452cbe08da756aad45"), looks := false }, kinds := [], alts := [], laidByText := true, laidKinds := [.data, .data, .data], laidTests := true, laidLooks := .later }
def ArmorMakesCardSaid : Prop := Claim7.holds Tryd.pinned (.plain (OpenSpec.ofChange armorMakesSpec)) armorMakesCard

/-- THE TIED CARD OF 'sluicewaylaw16.ArmorReads'. -/
def armorReadsCard : Claim7 := { stood := { row := armorReadsRow, standIns := [], harness := (true, "0675414b0190673e4e000fd7e62b2d951bdf8dd2207cec452cbe08da756aad45"), looks := false }, kinds := [], alts := [], laidByText := true, laidKinds := [.data, .data, .data], laidTests := true, laidLooks := .later }
def ArmorReadsCardSaid : Prop := Claim7.holds Tryd.pinned (.plain (OpenSpec.ofChange armorReadsSpec)) armorReadsCard

/-- THE TIED CARD OF 'sluicewaylaw16.ArmorBack'. -/
def armorBackCard : Claim7 := { stood := { row := armorBackRow, standIns := [], harness := (true, "0675414b0190673e4e000fd7e62b2d951bdf8dd2207cec452cbe08da756aad45"), looks := false }, kinds := [], alts := [], laidByText := true, laidKinds := [.data, .data, .data], laidTests := true, laidLooks := .later }
def ArmorBackCardSaid : Prop := Claim7.holds Tryd.pinned (.plain (OpenSpec.ofChange armorBackSpec)) armorBackCard

/-- THE TIED CARD OF 'sluicewaylaw16.ArmorApart'. -/
def armorApartCard : Claim7 := { stood := { row := armorApartRow, standIns := [], harness := (true, "0675414b0190673e4e000fd7e62b2d951bdf8dd2207cec452cbe08da756aad45"), looks := false }, kinds := [], alts := [], laidByText := true, laidKinds := [.data, .data, .data], laidTests := true, laidLooks := .later }
def ArmorApartCardSaid : Prop := Claim7.holds Tryd.pinned (.plain (OpenSpec.ofChange armorApartSpec)) armorApartCard

/-- THE TIED CARD OF 'sluicewaylaw07.TermDepths'. -/
def termDepthsCard : Claim7 := { stood := { row := termDepthsRow, standIns := [], harness := (true, "0675414b0190673e4e000fd7e62b2d951bdf8dd2207cec452cbe08da756aad45"), looks := false }, kinds := [], alts := [], laidByText := true, laidKinds := [.data, .data, .data, .data], laidTests := true, laidLooks := .later }
def TermDepthsCardSaid : Prop := Claim7.holds Tryd.pinned (.plain (OpenSpec.ofChange termDepthsSpec)) termDepthsCard

/-- THE TIED CARD OF 'sluicewaylaw07.TermWithin'. -/
def termWithinCard : Claim7 := { stood := { row := termWithinRow, standIns := [], harness := (true, "0675414b0190673e4e000fd7e62b2d951bdf8dd2207cec452cbe08da756aad45"), looks := false }, kinds := [], alts := [], laidByText := true, laidKinds := [.data, .data, .data, .data], laidTests := true, laidLooks := .later }
def TermWithinCardSaid : Prop := Claim7.holds Tryd.pinned (.plain (OpenSpec.ofChange termWithinSpec)) termWithinCard

/-- THE TIED CARD OF 'sluicewaylaw07.TermPairs'. -/
def termPairsCard : Claim7 := { stood := { row := termPairsRow, standIns := [], harness := (true, "0675414b0190673e4e000fd7e62b2d951bdf8dd2207cec452cbe08da756aad45"), looks := false }, kinds := [], alts := [], laidByText := true, laidKinds := [.data, .data, .data, .data], laidTests := true, laidLooks := .later }
def TermPairsCardSaid : Prop := Claim7.holds Tryd.pinned (.plain (OpenSpec.ofChange termPairsSpec)) termPairsCard

/-- THE TIED CARD OF 'sluicewaylaw07.TermNames'. -/
def termNamesCard : Claim7 := { stood := { row := termNamesRow, standIns := [], harness := (true, "0675414b0190673e4e000fd7e62b2d951bdf8dd2207cec452cbe08da756aad45"), looks := false }, kinds := [], alts := [], laidByText := true, laidKinds := [.data, .data, .data, .data], laidTests := true, laidLooks := .later }
def TermNamesCardSaid : Prop := Claim7.holds Tryd.pinned (.plain (OpenSpec.ofChange termNamesSpec)) termNamesCard

/-- THE TIED CARD OF 'sluicewaylaw07.TermShares'. -/
def termSharesCard : Claim7 := { stood := { row := termSharesRow, standIns := [], harness := (true, "0675414b0190673e4e000fd7e62b2d951bdf8dd2207cec452cbe08da756aad45"), looks := false }, kinds := [], alts := [], laidByText := true, laidKinds := [.data, .data, .data, .data], laidTests := true, laidLooks := .later }
def TermSharesCardSaid : Prop := Claim7.holds Tryd.pinned (.plain (OpenSpec.ofChange termSharesSpec)) termSharesCard

/-- THE TIED CARD OF 'sluicewaylaw10.KeysHide'. -/
def keysHideCard : Claim7 := { stood := { row := keysHideRow, standIns := [], harness := (true, "0675414b0190673e4e000fd7e62b2d951bdf8dd2207cec452cbe08da756aad45"), looks := false }, kinds := [], alts := [], laidByText := true, laidKinds := [.data, .data, .data, .data], laidTests := true, laidLooks := .later }
def KeysHideCardSaid : Prop := Claim7.holds Tryd.pinned (.plain (OpenSpec.ofChange keysHideSpec)) keysHideCard

/-- THE TIED CARD OF 'sluicewaylaw16.ArmorHides'. -/
def armorHidesCard : Claim7 := { stood := { row := armorHidesRow, standIns := [], harness := (true, "0675414b0190673e4e000fd7e62b2d951bdf8dd2207cec452cbe08da756aad45"), looks := false }, kinds := [], alts := [], laidByText := true, laidKinds := [.data, .data, .data, .data], laidTests := true, laidLooks := .later }
def ArmorHidesCardSaid : Prop := Claim7.holds Tryd.pinned (.plain (OpenSpec.ofChange armorHidesSpec)) armorHidesCard

/-- THE SECOND FORM's CARD OF 'sluicewaylaw16.ArmorMakes'. -/
def armorMakesUptoCard : Claim7 := { stood := { row := armorMakesUptoRow, standIns := [], harness := (true, "0675414b0190673e4e000fd7e62b2d951bdf8dd2207cec452cbe08da756aad45"), looks := false }, kinds := [], alts := [], laidByText := true, laidKinds := [.data, .data, .data], laidTests := true, laidLooks := .later }
def ArmorMakesUptoCardSaid : Prop := Claim7.holds Tryd.pinned (.plain (OpenSpec.upto armorMakesSpec)) armorMakesUptoCard

/-- THE SECOND FORM's CARD OF 'sluicewaylaw16.ArmorReads'. -/
def armorReadsUptoCard : Claim7 := { stood := { row := armorReadsUptoRow, standIns := [], harness := (true, "0675414b0190673e4e000fd7e62b2d951bdf8dd2207cec452cbe08da756aad45"), looks := false }, kinds := [], alts := [], laidByText := true, laidKinds := [.data, .data, .data], laidTests := true, laidLooks := .later }
def ArmorReadsUptoCardSaid : Prop := Claim7.holds Tryd.pinned (.plain (OpenSpec.upto armorReadsSpec)) armorReadsUptoCard

/-- THE SECOND FORM's CARD OF 'sluicewaylaw16.ArmorBack'. -/
def armorBackUptoCard : Claim7 := { stood := { row := armorBackUptoRow, standIns := [], harness := (true, "0675414b0190673e4e000fd7e62b2d951bdf8dd2207cec452cbe08da756aad45"), looks := false }, kinds := [], alts := [], laidByText := true, laidKinds := [.data, .data, .data], laidTests := true, laidLooks := .later }
def ArmorBackUptoCardSaid : Prop := Claim7.holds Tryd.pinned (.plain (OpenSpec.upto armorBackSpec)) armorBackUptoCard

/-- THE SECOND FORM's CARD OF 'sluicewaylaw16.ArmorApart'. -/
def armorApartUptoCard : Claim7 := { stood := { row := armorApartUptoRow, standIns := [], harness := (true, "0675414b0190673e4e000fd7e62b2d951bdf8dd2207cec452cbe08da756aad45"), looks := false }, kinds := [], alts := [], laidByText := true, laidKinds := [.data, .data, .data], laidTests := true, laidLooks := .later }
def ArmorApartUptoCardSaid : Prop := Claim7.holds Tryd.pinned (.plain (OpenSpec.upto armorApartSpec)) armorApartUptoCard

/-- THE SECOND FORM's CARD OF 'sluicewaylaw07.TermDepths'. -/
def termDepthsUptoCard : Claim7 := { stood := { row := termDepthsUptoRow, standIns := [], harness := (true, "0675414b0190673e4e000fd7e62b2d951bdf8dd2207cec452cbe08da756aad45"), looks := false }, kinds := [], alts := [], laidByText := true, laidKinds := [.data, .data, .data, .data], laidTests := true, laidLooks := .later }
def TermDepthsUptoCardSaid : Prop := Claim7.holds Tryd.pinned (.plain (OpenSpec.upto termDepthsSpec)) termDepthsUptoCard

/-- THE SECOND FORM's CARD OF 'sluicewaylaw07.TermWithin'. -/
def termWithinUptoCard : Claim7 := { stood := { row := termWithinUptoRow, standIns := [], harness := (true, "0675414b0190673e4e000fd7e62b2d951bdf8dd2207cec452cbe08da756aad45"), looks := false }, kinds := [], alts := [], laidByText := true, laidKinds := [.data, .data, .data, .data], laidTests := true, laidLooks := .later }
def TermWithinUptoCardSaid : Prop := Claim7.holds Tryd.pinned (.plain (OpenSpec.upto termWithinSpec)) termWithinUptoCard

/-- THE SECOND FORM's CARD OF 'sluicewaylaw07.TermPairs'. -/
def termPairsUptoCard : Claim7 := { stood := { row := termPairsUptoRow, standIns := [], harness := (true, "0675414b0190673e4e000fd7e62b2d951bdf8dd2207cec452cbe08da756aad45"), looks := false }, kinds := [], alts := [], laidByText := true, laidKinds := [.data, .data, .data, .data], laidTests := true, laidLooks := .later }
def TermPairsUptoCardSaid : Prop := Claim7.holds Tryd.pinned (.plain (OpenSpec.upto termPairsSpec)) termPairsUptoCard

/-- THE SECOND FORM's CARD OF 'sluicewaylaw07.TermNames'. -/
def termNamesUptoCard : Claim7 := { stood := { row := termNamesUptoRow, standIns := [], harness := (true, "0675414b0190673e4e000fd7e62b2d951bdf8dd2207cec452cbe08da756aad45"), looks := false }, kinds := [], alts := [], laidByText := true, laidKinds := [.data, .data, .data, .data], laidTests := true, laidLooks := .later }
def TermNamesUptoCardSaid : Prop := Claim7.holds Tryd.pinned (.plain (OpenSpec.upto termNamesSpec)) termNamesUptoCard

/-- THE SECOND FORM's CARD OF 'sluicewaylaw07.TermShares'. -/
def termSharesUptoCard : Claim7 := { stood := { row := termSharesUptoRow, standIns := [], harness := (true, "0675414b0190673e4e000fd7e62b2d951bdf8dd2207cec452cbe08da756aad45"), looks := false }, kinds := [], alts := [], laidByText := true, laidKinds := [.data, .data, .data, .data], laidTests := true, laidLooks := .later }
def TermSharesUptoCardSaid : Prop := Claim7.holds Tryd.pinned (.plain (OpenSpec.upto termSharesSpec)) termSharesUptoCard

/-- THE SECOND FORM's CARD OF 'sluicewaylaw10.KeysHide'. -/
def keysHideUptoCard : Claim7 := { stood := { row := keysHideUptoRow, standIns := [], harness := (true, "0675414b0190673e4e000fd7e62b2d951bdf8dd2207cec452cbe08da756aad45"), looks := false }, kinds := [], alts := [], laidByText := true, laidKinds := [.data, .data, .data, .data], laidTests := true, laidLooks := .later }
def KeysHideUptoCardSaid : Prop := Claim7.holds Tryd.pinned (.plain (OpenSpec.upto keysHideSpec)) keysHideUptoCard

/-- THE SECOND FORM's CARD OF 'sluicewaylaw16.ArmorHides'. -/
def armorHidesUptoCard : Claim7 := { stood := { row := armorHidesUptoRow, standIns := [], harness := (true, "0675414b0190673e4e000fd7e62b2d951bdf8dd2207cec452cbe08da756aad45"), looks := false }, kinds := [], alts := [], laidByText := true, laidKinds := [.data, .data, .data, .data], laidTests := true, laidLooks := .later }
def ArmorHidesUptoCardSaid : Prop := Claim7.holds Tryd.pinned (.plain (OpenSpec.upto armorHidesSpec)) armorHidesUptoCard
end Rows
end Go.Proofs.YtcdbgkcijelopaaDoor
