/-
  DERIVED. GIVEN WITH THE SEED: THE CARDS: each row of YtglhedahannjiaaGreatDoorRows.lean that lists a variable, with what it lists TIED to the program's text (the seventh form; the later family's looks); each row that meets fmt, with fmt's text TOLD by the authors' own Lean function (tested against real Go, not proved from fmt's source: count such statements apart). THE CARD IS WHAT COUNTS. Prove the row's statement (the work); the ties are given (YtglhedahannjiaaGreatDoorTie.lean); close each card by the builder's one call (the guide's Derived/Test/ToyasCard.lean, 'card_holds'). Laid BY PROGRAM, IN A SANDBOX (cutbox-door.mjs). By AI agents, Wed Nov 11 2026. No macro, syntax, notation, axiom, sorry.
-/
import Derived.Test.YtglhedahannjiaaGreatDoorRows
import GoSem.ClaimSeven
namespace Go.Proofs.YtglhedahannjiaaGreatDoor
namespace Rows

/-- THE TIED CARD OF 'turnstilelaw07.DiskSectors'. -/
def diskSectorsCard : Claim7 := { stood := { row := diskSectorsRow, standIns := [], harness := (true, "590be4b23991718287b345835f63aff5b6dd65a9d9ca2f926c2dcb5772da46af"), looks := true }, kinds := [], alts := [], laidByText := true, laidKinds := [.sentinel, .sentinel, .sentinel, .sentinel, .sentinel, .sentinel], laidTests := true, laidLooks := .later }
def DiskSectorsCardSaid : Prop := Claim7.holds Tryz.pinned (.plain (OpenSpec.ofChange diskSectorsSpec)) diskSectorsCard

/-- THE TIED CARD OF 'turnstilelaw07.DiskScripts'. -/
def diskScriptsCard : Claim7 := { stood := { row := diskScriptsRow, standIns := [], harness := (true, "590be4b23991718287b345835f63aff5b6dd65a9d9ca2f926c2dcb5772da46af"), looks := true }, kinds := [], alts := [], laidByText := true, laidKinds := [.sentinel, .sentinel, .sentinel, .sentinel, .sentinel, .sentinel, .sentinel, .sentinel, .sentinel, .sentinel, .sentinel, .sentinel, .sentinel, .sentinel, .sentinel], laidTests := true, laidLooks := .later }
def DiskScriptsCardSaid : Prop := Claim7.holds Tryz.pinned (.plain (OpenSpec.ofChange diskScriptsSpec)) diskScriptsCard

/-- THE TIED CARD OF 'turnstilelaw07.DiskKept'. -/
def diskKeptCard : Claim7 := { stood := { row := diskKeptRow, standIns := [], harness := (true, "590be4b23991718287b345835f63aff5b6dd65a9d9ca2f926c2dcb5772da46af"), looks := true }, kinds := [], alts := [], laidByText := true, laidKinds := [.sentinel, .sentinel, .sentinel, .sentinel, .sentinel, .sentinel, .sentinel, .sentinel, .sentinel, .sentinel, .sentinel, .sentinel, .sentinel, .sentinel, .sentinel], laidTests := true, laidLooks := .later }
def DiskKeptCardSaid : Prop := Claim7.holds Tryz.pinned (.plain (OpenSpec.ofChange diskKeptSpec)) diskKeptCard

/-- THE TIED CARD OF 'turnstilelaw07.DiskSynced'. -/
def diskSyncedCard : Claim7 := { stood := { row := diskSyncedRow, standIns := [], harness := (true, "590be4b23991718287b345835f63aff5b6dd65a9d9ca2f926c2dcb5772da46af"), looks := true }, kinds := [], alts := [], laidByText := true, laidKinds := [.sentinel, .sentinel, .sentinel, .sentinel, .sentinel, .sentinel, .sentinel, .sentinel, .sentinel, .sentinel, .sentinel, .sentinel, .sentinel, .sentinel, .sentinel], laidTests := true, laidLooks := .later }
def DiskSyncedCardSaid : Prop := Claim7.holds Tryz.pinned (.plain (OpenSpec.ofChange diskSyncedSpec)) diskSyncedCard

/-- THE TIED CARD OF 'turnstilelaw07.DiskFails'. -/
def diskFailsCard : Claim7 := { stood := { row := diskFailsRow, standIns := [], harness := (true, "590be4b23991718287b345835f63aff5b6dd65a9d9ca2f926c2dcb5772da46af"), looks := true }, kinds := [], alts := [], laidByText := true, laidKinds := [.sentinel, .sentinel, .sentinel, .sentinel, .sentinel, .sentinel, .sentinel, .sentinel, .sentinel, .sentinel, .sentinel, .sentinel, .sentinel, .sentinel, .sentinel], laidTests := true, laidLooks := .later }
def DiskFailsCardSaid : Prop := Claim7.holds Tryz.pinned (.plain (OpenSpec.ofChange diskFailsSpec)) diskFailsCard

/-- THE TIED CARD OF 'turnstilelaw07.DiskDown'. -/
def diskDownCard : Claim7 := { stood := { row := diskDownRow, standIns := [], harness := (true, "590be4b23991718287b345835f63aff5b6dd65a9d9ca2f926c2dcb5772da46af"), looks := true }, kinds := [], alts := [], laidByText := true, laidKinds := [.sentinel, .sentinel, .sentinel, .sentinel, .sentinel, .sentinel, .sentinel, .sentinel, .sentinel, .sentinel, .sentinel, .sentinel, .sentinel, .sentinel, .sentinel], laidTests := true, laidLooks := .later }
def DiskDownCardSaid : Prop := Claim7.holds Tryz.pinned (.plain (OpenSpec.ofChange diskDownSpec)) diskDownCard

/-- THE TIED CARD OF 'turnstilelaw07.DiskKeeps'. -/
def diskKeepsCard : Claim7 := { stood := { row := diskKeepsRow, standIns := [], harness := (true, "590be4b23991718287b345835f63aff5b6dd65a9d9ca2f926c2dcb5772da46af"), looks := true }, kinds := [], alts := [], laidByText := true, laidKinds := [.sentinel, .sentinel, .sentinel, .sentinel, .sentinel, .sentinel, .sentinel, .sentinel, .sentinel, .sentinel, .sentinel, .sentinel, .sentinel, .sentinel, .sentinel], laidTests := true, laidLooks := .later }
def DiskKeepsCardSaid : Prop := Claim7.holds Tryz.pinned (.plain (OpenSpec.ofChange diskKeepsSpec)) diskKeepsCard

/-- THE SECOND FORM's CARD OF 'turnstilelaw07.DiskSectors'. -/
def diskSectorsUptoCard : Claim7 := { stood := { row := diskSectorsUptoRow, standIns := [], harness := (true, "590be4b23991718287b345835f63aff5b6dd65a9d9ca2f926c2dcb5772da46af"), looks := true }, kinds := [], alts := [], laidByText := true, laidKinds := [.sentinel, .sentinel, .sentinel, .sentinel, .sentinel, .sentinel], laidTests := true, laidLooks := .later }
def DiskSectorsUptoCardSaid : Prop := Claim7.holds Tryz.pinned (.plain (OpenSpec.upto diskSectorsSpec)) diskSectorsUptoCard

/-- THE SECOND FORM's CARD OF 'turnstilelaw07.DiskScripts'. -/
def diskScriptsUptoCard : Claim7 := { stood := { row := diskScriptsUptoRow, standIns := [], harness := (true, "590be4b23991718287b345835f63aff5b6dd65a9d9ca2f926c2dcb5772da46af"), looks := true }, kinds := [], alts := [], laidByText := true, laidKinds := [.sentinel, .sentinel, .sentinel, .sentinel, .sentinel, .sentinel, .sentinel, .sentinel, .sentinel, .sentinel, .sentinel, .sentinel, .sentinel, .sentinel, .sentinel], laidTests := true, laidLooks := .later }
def DiskScriptsUptoCardSaid : Prop := Claim7.holds Tryz.pinned (.plain (OpenSpec.upto diskScriptsSpec)) diskScriptsUptoCard

/-- THE SECOND FORM's CARD OF 'turnstilelaw07.DiskKept'. -/
def diskKeptUptoCard : Claim7 := { stood := { row := diskKeptUptoRow, standIns := [], harness := (true, "590be4b23991718287b345835f63aff5b6dd65a9d9ca2f926c2dcb5772da46af"), looks := true }, kinds := [], alts := [], laidByText := true, laidKinds := [.sentinel, .sentinel, .sentinel, .sentinel, .sentinel, .sentinel, .sentinel, .sentinel, .sentinel, .sentinel, .sentinel, .sentinel, .sentinel, .sentinel, .sentinel], laidTests := true, laidLooks := .later }
def DiskKeptUptoCardSaid : Prop := Claim7.holds Tryz.pinned (.plain (OpenSpec.upto diskKeptSpec)) diskKeptUptoCard

/-- THE SECOND FORM's CARD OF 'turnstilelaw07.DiskSynced'. -/
def diskSyncedUptoCard : Claim7 := { stood := { row := diskSyncedUptoRow, standIns := [], harness := (true, "590be4b23991718287b345835f63aff5b6dd65a9d9ca2f926c2dcb5772da46af"), looks := true }, kinds := [], alts := [], laidByText := true, laidKinds := [.sentinel, .sentinel, .sentinel, .sentinel, .sentinel, .sentinel, .sentinel, .sentinel, .sentinel, .sentinel, .sentinel, .sentinel, .sentinel, .sentinel, .sentinel], laidTests := true, laidLooks := .later }
def DiskSyncedUptoCardSaid : Prop := Claim7.holds Tryz.pinned (.plain (OpenSpec.upto diskSyncedSpec)) diskSyncedUptoCard

/-- THE SECOND FORM's CARD OF 'turnstilelaw07.DiskFails'. -/
def diskFailsUptoCard : Claim7 := { stood := { row := diskFailsUptoRow, standIns := [], harness := (true, "590be4b23991718287b345835f63aff5b6dd65a9d9ca2f926c2dcb5772da46af"), looks := true }, kinds := [], alts := [], laidByText := true, laidKinds := [.sentinel, .sentinel, .sentinel, .sentinel, .sentinel, .sentinel, .sentinel, .sentinel, .sentinel, .sentinel, .sentinel, .sentinel, .sentinel, .sentinel, .sentinel], laidTests := true, laidLooks := .later }
def DiskFailsUptoCardSaid : Prop := Claim7.holds Tryz.pinned (.plain (OpenSpec.upto diskFailsSpec)) diskFailsUptoCard

/-- THE SECOND FORM's CARD OF 'turnstilelaw07.DiskDown'. -/
def diskDownUptoCard : Claim7 := { stood := { row := diskDownUptoRow, standIns := [], harness := (true, "590be4b23991718287b345835f63aff5b6dd65a9d9ca2f926c2dcb5772da46af"), looks := true }, kinds := [], alts := [], laidByText := true, laidKinds := [.sentinel, .sentinel, .sentinel, .sentinel, .sentinel, .sentinel, .sentinel, .sentinel, .sentinel, .sentinel, .sentinel, .sentinel, .sentinel, .sentinel, .sentinel], laidTests := true, laidLooks := .later }
def DiskDownUptoCardSaid : Prop := Claim7.holds Tryz.pinned (.plain (OpenSpec.upto diskDownSpec)) diskDownUptoCard

/-- THE SECOND FORM's CARD OF 'turnstilelaw07.DiskKeeps'. -/
def diskKeepsUptoCard : Claim7 := { stood := { row := diskKeepsUptoRow, standIns := [], harness := (true, "590be4b23991718287b345835f63aff5b6dd65a9d9ca2f926c2dcb5772da46af"), looks := true }, kinds := [], alts := [], laidByText := true, laidKinds := [.sentinel, .sentinel, .sentinel, .sentinel, .sentinel, .sentinel, .sentinel, .sentinel, .sentinel, .sentinel, .sentinel, .sentinel, .sentinel, .sentinel, .sentinel], laidTests := true, laidLooks := .later }
def DiskKeepsUptoCardSaid : Prop := Claim7.holds Tryz.pinned (.plain (OpenSpec.upto diskKeepsSpec)) diskKeepsUptoCard
end Rows
end Go.Proofs.YtglhedahannjiaaGreatDoor
