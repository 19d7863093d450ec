/-
  DERIVED. GIVEN WITH THE SEED: THE CARDS: each row of YtpgigkceoolgeaaGreatDoorRows.lean that lists a variable, with what it lists TIED to the program's text (the seventh form; the later family's looks); each row that meets fmt, with fmt's text TOLD by the authors' own Lean function (tested against real Go, not proved from fmt's source: count such statements apart). THE CARD IS WHAT COUNTS. Prove the row's statement (the work); the ties are given (YtpgigkceoolgeaaGreatDoorTie.lean); close each card by the builder's one call (the guide's Derived/Test/ToyasCard.lean, 'card_holds'). Laid BY PROGRAM, IN A SANDBOX (cutbox-door.mjs). By AI agents, Wed Nov 11 2026. No macro, syntax, notation, axiom, sorry.
-/
import Derived.Test.YtpgigkceoolgeaaGreatDoorRows
import GoSem.ClaimSeven
namespace Go.Proofs.YtpgigkceoolgeaaGreatDoor
namespace Rows

/-- THE TIED CARD OF 'plexuslaw47.StatelogPlays'. -/
def statelogPlaysCard : Claim7 := { stood := { row := statelogPlaysRow, standIns := [], harness := (true, "cd249ab50e0c5c74791f1ce54f48d4973111296c89afff70b629ef9f1e7cae91"), looks := false }, kinds := [], alts := [], laidByText := true, laidKinds := [.data], laidTests := true, laidLooks := .later }
def StatelogPlaysCardSaid : Prop := Claim7.holds Tryz.pinned (.plain (OpenSpec.ofChange statelogPlaysSpec)) statelogPlaysCard

/-- THE TIED CARD OF 'plexuslaw47.StatelogRecords'. -/
def statelogRecordsCard : Claim7 := { stood := { row := statelogRecordsRow, standIns := [], harness := (true, "cd249ab50e0c5c74791f1ce54f48d4973111296c89afff70b629ef9f1e7cae91"), looks := false }, kinds := [], alts := [], laidByText := true, laidKinds := [.data], laidTests := true, laidLooks := .later }
def StatelogRecordsCardSaid : Prop := Claim7.holds Tryz.pinned (.plain (OpenSpec.ofChange statelogRecordsSpec)) statelogRecordsCard

/-- THE TIED CARD OF 'plexuslaw47.StatelogSurvives'. -/
def statelogSurvivesCard : Claim7 := { stood := { row := statelogSurvivesRow, standIns := [], harness := (true, "cd249ab50e0c5c74791f1ce54f48d4973111296c89afff70b629ef9f1e7cae91"), looks := false }, kinds := [], alts := [], laidByText := true, laidKinds := [.data], laidTests := true, laidLooks := .later }
def StatelogSurvivesCardSaid : Prop := Claim7.holds Tryz.pinned (.plain (OpenSpec.ofChange statelogSurvivesSpec)) statelogSurvivesCard

/-- THE TIED CARD OF 'plexuslaw47.StatelogGrows'. -/
def statelogGrowsCard : Claim7 := { stood := { row := statelogGrowsRow, standIns := [], harness := (true, "cd249ab50e0c5c74791f1ce54f48d4973111296c89afff70b629ef9f1e7cae91"), looks := false }, kinds := [], alts := [], laidByText := true, laidKinds := [.data], laidTests := true, laidLooks := .later }
def StatelogGrowsCardSaid : Prop := Claim7.holds Tryz.pinned (.plain (OpenSpec.ofChange statelogGrowsSpec)) statelogGrowsCard

/-- THE TIED CARD OF 'plexuslaw47.StatelogOpens'. -/
def statelogOpensCard : Claim7 := { stood := { row := statelogOpensRow, standIns := [], harness := (true, "cd249ab50e0c5c74791f1ce54f48d4973111296c89afff70b629ef9f1e7cae91"), looks := false }, kinds := [], alts := [], laidByText := true, laidKinds := [.data], laidTests := true, laidLooks := .later }
def StatelogOpensCardSaid : Prop := Claim7.holds Tryz.pinned (.plain (OpenSpec.ofChange statelogOpensSpec)) statelogOpensCard

/-- THE SECOND FORM's CARD OF 'plexuslaw47.StatelogPlays'. -/
def statelogPlaysUptoCard : Claim7 := { stood := { row := statelogPlaysUptoRow, standIns := [], harness := (true, "cd249ab50e0c5c74791f1ce54f48d4973111296c89afff70b629ef9f1e7cae91"), looks := false }, kinds := [], alts := [], laidByText := true, laidKinds := [.data], laidTests := true, laidLooks := .later }
def StatelogPlaysUptoCardSaid : Prop := Claim7.holds Tryz.pinned (.plain (OpenSpec.upto statelogPlaysSpec)) statelogPlaysUptoCard

/-- THE SECOND FORM's CARD OF 'plexuslaw47.StatelogRecords'. -/
def statelogRecordsUptoCard : Claim7 := { stood := { row := statelogRecordsUptoRow, standIns := [], harness := (true, "cd249ab50e0c5c74791f1ce54f48d4973111296c89afff70b629ef9f1e7cae91"), looks := false }, kinds := [], alts := [], laidByText := true, laidKinds := [.data], laidTests := true, laidLooks := .later }
def StatelogRecordsUptoCardSaid : Prop := Claim7.holds Tryz.pinned (.plain (OpenSpec.upto statelogRecordsSpec)) statelogRecordsUptoCard

/-- THE SECOND FORM's CARD OF 'plexuslaw47.StatelogSurvives'. -/
def statelogSurvivesUptoCard : Claim7 := { stood := { row := statelogSurvivesUptoRow, standIns := [], harness := (true, "cd249ab50e0c5c74791f1ce54f48d4973111296c89afff70b629ef9f1e7cae91"), looks := false }, kinds := [], alts := [], laidByText := true, laidKinds := [.data], laidTests := true, laidLooks := .later }
def StatelogSurvivesUptoCardSaid : Prop := Claim7.holds Tryz.pinned (.plain (OpenSpec.upto statelogSurvivesSpec)) statelogSurvivesUptoCard

/-- THE SECOND FORM's CARD OF 'plexuslaw47.StatelogGrows'. -/
def statelogGrowsUptoCard : Claim7 := { stood := { row := statelogGrowsUptoRow, standIns := [], harness := (true, "cd249ab50e0c5c74791f1ce54f48d4973111296c89afff70b629ef9f1e7cae91"), looks := false }, kinds := [], alts := [], laidByText := true, laidKinds := [.data], laidTests := true, laidLooks := .later }
def StatelogGrowsUptoCardSaid : Prop := Claim7.holds Tryz.pinned (.plain (OpenSpec.upto statelogGrowsSpec)) statelogGrowsUptoCard

/-- THE SECOND FORM's CARD OF 'plexuslaw47.StatelogOpens'. -/
def statelogOpensUptoCard : Claim7 := { stood := { row := statelogOpensUptoRow, standIns := [], harness := (true, "cd249ab50e0c5c74791f1ce54f48d4973111296c89afff70b629ef9f1e7cae91"), looks := false }, kinds := [], alts := [], laidByText := true, laidKinds := [.data], laidTests := true, laidLooks := .later }
def StatelogOpensUptoCardSaid : Prop := Claim7.holds Tryz.pinned (.plain (OpenSpec.upto statelogOpensSpec)) statelogOpensUptoCard
end Rows
end Go.Proofs.YtpgigkceoolgeaaGreatDoor
