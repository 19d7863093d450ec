/-
  DERIVED. GIVEN WITH THE SEED: THE CARDS: each row of YtkceoefmhppddaaDoorRows.lean that lists a variable, with what it lists TIED to the program's text (the seventh form; the later family's looks); each row that meets fmt, with fmt's text TOLD by the authors' own Lean function (tested against real Go, not proved from fmt's source: count such statements apart). THE CARD IS WHAT COUNTS. Prove the row's statement (the work); the ties are given (YtkceoefmhppddaaDoorTie.lean); close each card by the builder's one call (the guide's Derived/Test/ToyasCard.lean, 'card_holds'). Laid BY PROGRAM, IN A SANDBOX (cutbox-door.mjs). By AI agents, Wed Nov 11 2026. No macro, syntax, notation, axiom, sorry.
-/
import Derived.Test.YtkceoefmhppddaaDoorRows
import GoSem.ClaimSeven
namespace Go.Proofs.YtkceoefmhppddaaDoor
namespace Rows

/-- THE TIED CARD OF 'plexuslaw27.CheckpointAlternates'. -/
def checkpointAlternatesCard : Claim7 := { stood := { row := checkpointAlternatesRow, standIns := [], harness := (true, "1b4fb7c91ff3afd7cee09891cd86af2b874c8caf015c9f557dd18e3d866ea471"), looks := false }, kinds := [], alts := [], laidByText := true, laidKinds := [.data], laidTests := true, laidLooks := .later }
def CheckpointAlternatesCardSaid : Prop := Claim7.holds Tryd.pinned (.plain (OpenSpec.ofChange checkpointAlternatesSpec)) checkpointAlternatesCard

/-- THE TIED CARD OF 'plexuslaw27.CheckpointFinds'. -/
def checkpointFindsCard : Claim7 := { stood := { row := checkpointFindsRow, standIns := [], harness := (true, "1b4fb7c91ff3afd7cee09891cd86af2b874c8caf015c9f557dd18e3d866ea471"), looks := false }, kinds := [], alts := [], laidByText := true, laidKinds := [.data], laidTests := true, laidLooks := .later }
def CheckpointFindsCardSaid : Prop := Claim7.holds Tryd.pinned (.plain (OpenSpec.ofChange checkpointFindsSpec)) checkpointFindsCard

/-- THE TIED CARD OF 'plexuslaw27.CheckpointSaves'. -/
def checkpointSavesCard : Claim7 := { stood := { row := checkpointSavesRow, standIns := [], harness := (true, "1b4fb7c91ff3afd7cee09891cd86af2b874c8caf015c9f557dd18e3d866ea471"), looks := false }, kinds := [], alts := [], laidByText := true, laidKinds := [.data], laidTests := true, laidLooks := .later }
def CheckpointSavesCardSaid : Prop := Claim7.holds Tryd.pinned (.plain (OpenSpec.ofChange checkpointSavesSpec)) checkpointSavesCard

/-- THE TIED CARD OF 'plexuslaw27.CheckpointOpens'. -/
def checkpointOpensCard : Claim7 := { stood := { row := checkpointOpensRow, standIns := [], harness := (true, "1b4fb7c91ff3afd7cee09891cd86af2b874c8caf015c9f557dd18e3d866ea471"), looks := false }, kinds := [], alts := [], laidByText := true, laidKinds := [.data], laidTests := true, laidLooks := .later }
def CheckpointOpensCardSaid : Prop := Claim7.holds Tryd.pinned (.plain (OpenSpec.ofChange checkpointOpensSpec)) checkpointOpensCard

/-- THE TIED CARD OF 'plexuslaw27.CheckpointCounts'. -/
def checkpointCountsCard : Claim7 := { stood := { row := checkpointCountsRow, standIns := [], harness := (true, "1b4fb7c91ff3afd7cee09891cd86af2b874c8caf015c9f557dd18e3d866ea471"), looks := false }, kinds := [], alts := [], laidByText := true, laidKinds := [.data], laidTests := true, laidLooks := .later }
def CheckpointCountsCardSaid : Prop := Claim7.holds Tryd.pinned (.plain (OpenSpec.ofChange checkpointCountsSpec)) checkpointCountsCard

/-- THE TIED CARD OF 'plexuslaw27.CheckpointSurvives'. -/
def checkpointSurvivesCard : Claim7 := { stood := { row := checkpointSurvivesRow, standIns := [], harness := (true, "1b4fb7c91ff3afd7cee09891cd86af2b874c8caf015c9f557dd18e3d866ea471"), looks := false }, kinds := [], alts := [], laidByText := true, laidKinds := [.data], laidTests := true, laidLooks := .later }
def CheckpointSurvivesCardSaid : Prop := Claim7.holds Tryd.pinned (.plain (OpenSpec.ofChange checkpointSurvivesSpec)) checkpointSurvivesCard

/-- THE TIED CARD OF 'plexuslaw27.CheckpointEvery'. -/
def checkpointEveryCard : Claim7 := { stood := { row := checkpointEveryRow, standIns := [], harness := (true, "1b4fb7c91ff3afd7cee09891cd86af2b874c8caf015c9f557dd18e3d866ea471"), looks := false }, kinds := [], alts := [], laidByText := true, laidKinds := [.data], laidTests := true, laidLooks := .later }
def CheckpointEveryCardSaid : Prop := Claim7.holds Tryd.pinned (.plain (OpenSpec.ofChange checkpointEverySpec)) checkpointEveryCard

/-- THE SECOND FORM's CARD OF 'plexuslaw27.CheckpointAlternates'. -/
def checkpointAlternatesUptoCard : Claim7 := { stood := { row := checkpointAlternatesUptoRow, standIns := [], harness := (true, "1b4fb7c91ff3afd7cee09891cd86af2b874c8caf015c9f557dd18e3d866ea471"), looks := false }, kinds := [], alts := [], laidByText := true, laidKinds := [.data], laidTests := true, laidLooks := .later }
def CheckpointAlternatesUptoCardSaid : Prop := Claim7.holds Tryd.pinned (.plain (OpenSpec.upto checkpointAlternatesSpec)) checkpointAlternatesUptoCard

/-- THE SECOND FORM's CARD OF 'plexuslaw27.CheckpointFinds'. -/
def checkpointFindsUptoCard : Claim7 := { stood := { row := checkpointFindsUptoRow, standIns := [], harness := (true, "1b4fb7c91ff3afd7cee09891cd86af2b874c8caf015c9f557dd18e3d866ea471"), looks := false }, kinds := [], alts := [], laidByText := true, laidKinds := [.data], laidTests := true, laidLooks := .later }
def CheckpointFindsUptoCardSaid : Prop := Claim7.holds Tryd.pinned (.plain (OpenSpec.upto checkpointFindsSpec)) checkpointFindsUptoCard

/-- THE SECOND FORM's CARD OF 'plexuslaw27.CheckpointSaves'. -/
def checkpointSavesUptoCard : Claim7 := { stood := { row := checkpointSavesUptoRow, standIns := [], harness := (true, "1b4fb7c91ff3afd7cee09891cd86af2b874c8caf015c9f557dd18e3d866ea471"), looks := false }, kinds := [], alts := [], laidByText := true, laidKinds := [.data], laidTests := true, laidLooks := .later }
def CheckpointSavesUptoCardSaid : Prop := Claim7.holds Tryd.pinned (.plain (OpenSpec.upto checkpointSavesSpec)) checkpointSavesUptoCard

/-- THE SECOND FORM's CARD OF 'plexuslaw27.CheckpointOpens'. -/
def checkpointOpensUptoCard : Claim7 := { stood := { row := checkpointOpensUptoRow, standIns := [], harness := (true, "1b4fb7c91ff3afd7cee09891cd86af2b874c8caf015c9f557dd18e3d866ea471"), looks := false }, kinds := [], alts := [], laidByText := true, laidKinds := [.data], laidTests := true, laidLooks := .later }
def CheckpointOpensUptoCardSaid : Prop := Claim7.holds Tryd.pinned (.plain (OpenSpec.upto checkpointOpensSpec)) checkpointOpensUptoCard

/-- THE SECOND FORM's CARD OF 'plexuslaw27.CheckpointCounts'. -/
def checkpointCountsUptoCard : Claim7 := { stood := { row := checkpointCountsUptoRow, standIns := [], harness := (true, "1b4fb7c91ff3afd7cee09891cd86af2b874c8caf015c9f557dd18e3d866ea471"), looks := false }, kinds := [], alts := [], laidByText := true, laidKinds := [.data], laidTests := true, laidLooks := .later }
def CheckpointCountsUptoCardSaid : Prop := Claim7.holds Tryd.pinned (.plain (OpenSpec.upto checkpointCountsSpec)) checkpointCountsUptoCard

/-- THE SECOND FORM's CARD OF 'plexuslaw27.CheckpointSurvives'. -/
def checkpointSurvivesUptoCard : Claim7 := { stood := { row := checkpointSurvivesUptoRow, standIns := [], harness := (true, "1b4fb7c91ff3afd7cee09891cd86af2b874c8caf015c9f557dd18e3d866ea471"), looks := false }, kinds := [], alts := [], laidByText := true, laidKinds := [.data], laidTests := true, laidLooks := .later }
def CheckpointSurvivesUptoCardSaid : Prop := Claim7.holds Tryd.pinned (.plain (OpenSpec.upto checkpointSurvivesSpec)) checkpointSurvivesUptoCard

/-- THE SECOND FORM's CARD OF 'plexuslaw27.CheckpointEvery'. -/
def checkpointEveryUptoCard : Claim7 := { stood := { row := checkpointEveryUptoRow, standIns := [], harness := (true, "1b4fb7c91ff3afd7cee09891cd86af2b874c8caf015c9f557dd18e3d866ea471"), looks := false }, kinds := [], alts := [], laidByText := true, laidKinds := [.data], laidTests := true, laidLooks := .later }
def CheckpointEveryUptoCardSaid : Prop := Claim7.holds Tryd.pinned (.plain (OpenSpec.upto checkpointEverySpec)) checkpointEveryUptoCard
end Rows
end Go.Proofs.YtkceoefmhppddaaDoor
