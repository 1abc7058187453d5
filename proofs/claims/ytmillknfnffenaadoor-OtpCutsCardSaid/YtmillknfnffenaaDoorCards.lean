/-
  DERIVED. GIVEN WITH THE SEED: THE CARDS: each row of YtmillknfnffenaaDoorRows.lean that lists a variable, with what it lists TIED to the program's text (the seventh form; the later family's looks); each row that meets fmt, with fmt's text TOLD by the authors' own Lean function (tested against real Go, not proved from fmt's source: count such statements apart). THE CARD IS WHAT COUNTS. Prove the row's statement (the work); the ties are given (YtmillknfnffenaaDoorTie.lean); close each card by the builder's one call (the guide's Derived/Test/ToyasCard.lean, 'card_holds'). Laid BY PROGRAM, IN A SANDBOX (cutbox-door.mjs). By AI agents, Wed Nov 11 2026. No macro, syntax, notation, axiom, sorry.
-/
import Derived.Test.YtmillknfnffenaaDoorRows
import GoSem.ClaimSeven
namespace Go.Proofs.YtmillknfnffenaaDoor
namespace Rows

/-- THE TIED CARD OF 'sluicewaylaw04.OtpCodes'. -/
def otpCodesCard : Claim7 := { stood := { row := otpCodesRow, standIns := [], harness := (true, "03a6a4aab6621da692d8dcaebaf4f1847a4216f6bbc3e3aee7287ddb51986974"), looks := false }, kinds := [], alts := [], laidByText := true, laidKinds := [.data, .data, .data], laidTests := true, laidLooks := .later }
def OtpCodesCardSaid : Prop := Claim7.holds Tryd.pinned (.plain (OpenSpec.ofChange otpCodesSpec)) otpCodesCard

/-- THE TIED CARD OF 'sluicewaylaw04.OtpTruncates'. -/
def otpTruncatesCard : Claim7 := { stood := { row := otpTruncatesRow, standIns := [], harness := (true, "03a6a4aab6621da692d8dcaebaf4f1847a4216f6bbc3e3aee7287ddb51986974"), looks := false }, kinds := [], alts := [], laidByText := true, laidKinds := [.data, .data, .data], laidTests := true, laidLooks := .later }
def OtpTruncatesCardSaid : Prop := Claim7.holds Tryd.pinned (.plain (OpenSpec.ofChange otpTruncatesSpec)) otpTruncatesCard

/-- THE TIED CARD OF 'sluicewaylaw04.OtpKnown'. -/
def otpKnownCard : Claim7 := { stood := { row := otpKnownRow, standIns := [], harness := (true, "03a6a4aab6621da692d8dcaebaf4f1847a4216f6bbc3e3aee7287ddb51986974"), looks := false }, kinds := [], alts := [], laidByText := true, laidKinds := [.data, .data, .data], laidTests := true, laidLooks := .later }
def OtpKnownCardSaid : Prop := Claim7.holds Tryd.pinned (.plain (OpenSpec.ofChange otpKnownSpec)) otpKnownCard

/-- THE TIED CARD OF 'sluicewaylaw04.OtpTexts'. -/
def otpTextsCard : Claim7 := { stood := { row := otpTextsRow, standIns := [], harness := (true, "03a6a4aab6621da692d8dcaebaf4f1847a4216f6bbc3e3aee7287ddb51986974"), looks := false }, kinds := [], alts := [], laidByText := true, laidKinds := [.data, .data, .data], laidTests := true, laidLooks := .later }
def OtpTextsCardSaid : Prop := Claim7.holds Tryd.pinned (.plain (OpenSpec.ofChange otpTextsSpec)) otpTextsCard

/-- THE TIED CARD OF 'sluicewaylaw04.OtpBack'. -/
def otpBackCard : Claim7 := { stood := { row := otpBackRow, standIns := [], harness := (true, "03a6a4aab6621da692d8dcaebaf4f1847a4216f6bbc3e3aee7287ddb51986974"), looks := false }, kinds := [], alts := [], laidByText := true, laidKinds := [.data, .data, .data], laidTests := true, laidLooks := .later }
def OtpBackCardSaid : Prop := Claim7.holds Tryd.pinned (.plain (OpenSpec.ofChange otpBackSpec)) otpBackCard

/-- THE TIED CARD OF 'sluicewaylaw04.OtpCuts'. -/
def otpCutsCard : Claim7 := { stood := { row := otpCutsRow, standIns := [], harness := (true, "03a6a4aab6621da692d8dcaebaf4f1847a4216f6bbc3e3aee7287ddb51986974"), looks := false }, kinds := [], alts := [], laidByText := true, laidKinds := [.data, .data, .data], laidTests := true, laidLooks := .later }
def OtpCutsCardSaid : Prop := Claim7.holds Tryd.pinned (.plain (OpenSpec.ofChange otpCutsSpec)) otpCutsCard

/-- THE TIED CARD OF 'sluicewaylaw04.OtpSteps'. -/
def otpStepsCard : Claim7 := { stood := { row := otpStepsRow, standIns := [], harness := (true, "03a6a4aab6621da692d8dcaebaf4f1847a4216f6bbc3e3aee7287ddb51986974"), looks := false }, kinds := [], alts := [], laidByText := true, laidKinds := [.data, .data, .data], laidTests := true, laidLooks := .later }
def OtpStepsCardSaid : Prop := Claim7.holds Tryd.pinned (.plain (OpenSpec.ofChange otpStepsSpec)) otpStepsCard

/-- THE SECOND FORM's CARD OF 'sluicewaylaw04.OtpCodes'. -/
def otpCodesUptoCard : Claim7 := { stood := { row := otpCodesUptoRow, standIns := [], harness := (true, "03a6a4aab6621da692d8dcaebaf4f1847a4216f6bbc3e3aee7287ddb51986974"), looks := false }, kinds := [], alts := [], laidByText := true, laidKinds := [.data, .data, .data], laidTests := true, laidLooks := .later }
def OtpCodesUptoCardSaid : Prop := Claim7.holds Tryd.pinned (.plain (OpenSpec.upto otpCodesSpec)) otpCodesUptoCard

/-- THE SECOND FORM's CARD OF 'sluicewaylaw04.OtpTruncates'. -/
def otpTruncatesUptoCard : Claim7 := { stood := { row := otpTruncatesUptoRow, standIns := [], harness := (true, "03a6a4aab6621da692d8dcaebaf4f1847a4216f6bbc3e3aee7287ddb51986974"), looks := false }, kinds := [], alts := [], laidByText := true, laidKinds := [.data, .data, .data], laidTests := true, laidLooks := .later }
def OtpTruncatesUptoCardSaid : Prop := Claim7.holds Tryd.pinned (.plain (OpenSpec.upto otpTruncatesSpec)) otpTruncatesUptoCard

/-- THE SECOND FORM's CARD OF 'sluicewaylaw04.OtpKnown'. -/
def otpKnownUptoCard : Claim7 := { stood := { row := otpKnownUptoRow, standIns := [], harness := (true, "03a6a4aab6621da692d8dcaebaf4f1847a4216f6bbc3e3aee7287ddb51986974"), looks := false }, kinds := [], alts := [], laidByText := true, laidKinds := [.data, .data, .data], laidTests := true, laidLooks := .later }
def OtpKnownUptoCardSaid : Prop := Claim7.holds Tryd.pinned (.plain (OpenSpec.upto otpKnownSpec)) otpKnownUptoCard

/-- THE SECOND FORM's CARD OF 'sluicewaylaw04.OtpTexts'. -/
def otpTextsUptoCard : Claim7 := { stood := { row := otpTextsUptoRow, standIns := [], harness := (true, "03a6a4aab6621da692d8dcaebaf4f1847a4216f6bbc3e3aee7287ddb51986974"), looks := false }, kinds := [], alts := [], laidByText := true, laidKinds := [.data, .data, .data], laidTests := true, laidLooks := .later }
def OtpTextsUptoCardSaid : Prop := Claim7.holds Tryd.pinned (.plain (OpenSpec.upto otpTextsSpec)) otpTextsUptoCard

/-- THE SECOND FORM's CARD OF 'sluicewaylaw04.OtpBack'. -/
def otpBackUptoCard : Claim7 := { stood := { row := otpBackUptoRow, standIns := [], harness := (true, "03a6a4aab6621da692d8dcaebaf4f1847a4216f6bbc3e3aee7287ddb51986974"), looks := false }, kinds := [], alts := [], laidByText := true, laidKinds := [.data, .data, .data], laidTests := true, laidLooks := .later }
def OtpBackUptoCardSaid : Prop := Claim7.holds Tryd.pinned (.plain (OpenSpec.upto otpBackSpec)) otpBackUptoCard

/-- THE SECOND FORM's CARD OF 'sluicewaylaw04.OtpCuts'. -/
def otpCutsUptoCard : Claim7 := { stood := { row := otpCutsUptoRow, standIns := [], harness := (true, "03a6a4aab6621da692d8dcaebaf4f1847a4216f6bbc3e3aee7287ddb51986974"), looks := false }, kinds := [], alts := [], laidByText := true, laidKinds := [.data, .data, .data], laidTests := true, laidLooks := .later }
def OtpCutsUptoCardSaid : Prop := Claim7.holds Tryd.pinned (.plain (OpenSpec.upto otpCutsSpec)) otpCutsUptoCard

/-- THE SECOND FORM's CARD OF 'sluicewaylaw04.OtpSteps'. -/
def otpStepsUptoCard : Claim7 := { stood := { row := otpStepsUptoRow, standIns := [], harness := (true, "03a6a4aab6621da692d8dcaebaf4f1847a4216f6bbc3e3aee7287ddb51986974"), looks := false }, kinds := [], alts := [], laidByText := true, laidKinds := [.data, .data, .data], laidTests := true, laidLooks := .later }
def OtpStepsUptoCardSaid : Prop := Claim7.holds Tryd.pinned (.plain (OpenSpec.upto otpStepsSpec)) otpStepsUptoCard
end Rows
end Go.Proofs.YtmillknfnffenaaDoor
