/-
  DERIVED. GIVEN WITH THE SEED: THE CARDS: each row of YtpckkdjdjkjapaaGreatDoorRows.lean that lists a variable, with what it lists TIED to the program's text (the seventh form; the later family's looks); each row that meets fmt, with fmt's text TOLD by the authors' own Lean function (tested against real Go, not proved from fmt's source: count such statements apart). THE CARD IS WHAT COUNTS. Prove the row's statement (the work); the ties are given (YtpckkdjdjkjapaaGreatDoorTie.lean); close each card by the builder's one call (the guide's Derived/Test/ToyasCard.lean, 'card_holds'). Laid BY PROGRAM, IN A SANDBOX (cutbox-door.mjs). By AI agents, Wed Nov 11 2026. No macro, syntax, notation, axiom, sorry.
-/
import Derived.Test.YtpckkdjdjkjapaaGreatDoorRows
import GoSem.ClaimSeven
namespace Go.Proofs.YtpckkdjdjkjapaaGreatDoor
namespace Rows

/-- THE TIED CARD OF 'turnstilelaw07.DiskScripts'. -/
def diskScriptsCard : Claim7 := { stood := { row := diskScriptsRow, standIns := [], harness := (true, "04b1c94b449c0ca5da8f35b81b9bccc7744a9b93febf5f313788cbd3d6bbabfd"), looks := true }, kinds := [], alts := [], laidByText := true, laidKinds := [.sentinel, .sentinel, .sentinel, .sentinel, .sentinel, .sentinel, .sentinel, .sentinel, .sentinel, .sentinel, .sentinel, .sentinel, .sentinel, .sentinel, .sentinel], laidTests := true, laidLooks := .later }
def DiskScriptsCardSaid : Prop := Claim7.holds Tryz.pinned (.plain (OpenSpec.ofChange diskScriptsSpec)) diskScriptsCard

/-- THE TIED CARD OF 'turnstilelaw09.SegmentMemory'. -/
def segmentMemoryCard : Claim7 := { stood := { row := segmentMemoryRow, standIns := [], harness := (true, "04b1c94b449c0ca5da8f35b81b9bccc7744a9b93febf5f313788cbd3d6bbabfd"), looks := true }, kinds := [], alts := [], laidByText := true, laidKinds := [.data, .data, .data, .data, .data, .sentinel, .sentinel, .sentinel, .sentinel, .sentinel, .sentinel, .sentinel, .sentinel, .sentinel, .sentinel, .sentinel, .pinned], laidTests := true, laidLooks := .later }
def SegmentMemoryCardSaid : Prop := Claim7.holds Tryz.pinned (.plain (OpenSpec.ofChange segmentMemorySpec)) segmentMemoryCard

/-- THE TIED CARD OF 'turnstilelaw09.SegmentCuts'. -/
def segmentCutsCard : Claim7 := { stood := { row := segmentCutsRow, standIns := [], harness := (true, "04b1c94b449c0ca5da8f35b81b9bccc7744a9b93febf5f313788cbd3d6bbabfd"), looks := true }, kinds := [], alts := [], laidByText := true, laidKinds := [.data, .data, .data, .data, .data, .sentinel, .sentinel, .sentinel, .sentinel, .sentinel, .sentinel, .sentinel, .sentinel, .sentinel, .sentinel, .sentinel, .pinned], laidTests := true, laidLooks := .later }
def SegmentCutsCardSaid : Prop := Claim7.holds Tryz.pinned (.plain (OpenSpec.ofChange segmentCutsSpec)) segmentCutsCard

/-- THE TIED CARD OF 'turnstilelaw09.SegmentSick'. -/
def segmentSickCard : Claim7 := { stood := { row := segmentSickRow, standIns := [], harness := (true, "04b1c94b449c0ca5da8f35b81b9bccc7744a9b93febf5f313788cbd3d6bbabfd"), looks := true }, kinds := [], alts := [], laidByText := true, laidKinds := [.data, .data, .data, .data, .data, .sentinel, .sentinel, .sentinel, .sentinel, .sentinel, .sentinel, .sentinel, .sentinel, .sentinel, .sentinel, .sentinel, .pinned], laidTests := true, laidLooks := .later }
def SegmentSickCardSaid : Prop := Claim7.holds Tryz.pinned (.plain (OpenSpec.ofChange segmentSickSpec)) segmentSickCard

/-- THE TIED CARD OF 'turnstilelaw09.SegmentNames'. -/
def segmentNamesCard : Claim7 := { stood := { row := segmentNamesRow, standIns := [], harness := (true, "04b1c94b449c0ca5da8f35b81b9bccc7744a9b93febf5f313788cbd3d6bbabfd"), looks := true }, kinds := [], alts := [], laidByText := true, laidKinds := [.data, .data, .data, .data, .data, .sentinel, .sentinel, .sentinel, .sentinel, .sentinel, .sentinel, .sentinel, .sentinel, .sentinel, .sentinel, .sentinel, .sentinel, .sentinel, .pinned], laidTests := true, laidLooks := .later }
def SegmentNamesCardSaid : Prop := Claim7.holds Tryz.pinned (.plain (OpenSpec.ofChange segmentNamesSpec)) segmentNamesCard

/-- THE TIED CARD OF 'turnstilelaw09.SegmentSafe'. -/
def segmentSafeCard : Claim7 := { stood := { row := segmentSafeRow, standIns := [], harness := (true, "04b1c94b449c0ca5da8f35b81b9bccc7744a9b93febf5f313788cbd3d6bbabfd"), looks := true }, kinds := [], alts := [], laidByText := true, laidKinds := [.data, .data, .data, .data, .data, .sentinel, .sentinel, .sentinel, .sentinel, .sentinel, .sentinel, .sentinel, .sentinel, .sentinel, .sentinel, .sentinel, .sentinel, .pinned], laidTests := true, laidLooks := .later }
def SegmentSafeCardSaid : Prop := Claim7.holds Tryz.pinned (.plain (OpenSpec.ofChange segmentSafeSpec)) segmentSafeCard

/-- THE SECOND FORM's CARD OF 'turnstilelaw07.DiskScripts'. -/
def diskScriptsUptoCard : Claim7 := { stood := { row := diskScriptsUptoRow, standIns := [], harness := (true, "04b1c94b449c0ca5da8f35b81b9bccc7744a9b93febf5f313788cbd3d6bbabfd"), looks := true }, kinds := [], alts := [], laidByText := true, laidKinds := [.sentinel, .sentinel, .sentinel, .sentinel, .sentinel, .sentinel, .sentinel, .sentinel, .sentinel, .sentinel, .sentinel, .sentinel, .sentinel, .sentinel, .sentinel], laidTests := true, laidLooks := .later }
def DiskScriptsUptoCardSaid : Prop := Claim7.holds Tryz.pinned (.plain (OpenSpec.upto diskScriptsSpec)) diskScriptsUptoCard

/-- THE SECOND FORM's CARD OF 'turnstilelaw09.SegmentMemory'. -/
def segmentMemoryUptoCard : Claim7 := { stood := { row := segmentMemoryUptoRow, standIns := [], harness := (true, "04b1c94b449c0ca5da8f35b81b9bccc7744a9b93febf5f313788cbd3d6bbabfd"), looks := true }, kinds := [], alts := [], laidByText := true, laidKinds := [.data, .data, .data, .data, .data, .sentinel, .sentinel, .sentinel, .sentinel, .sentinel, .sentinel, .sentinel, .sentinel, .sentinel, .sentinel, .sentinel, .pinned], laidTests := true, laidLooks := .later }
def SegmentMemoryUptoCardSaid : Prop := Claim7.holds Tryz.pinned (.plain (OpenSpec.upto segmentMemorySpec)) segmentMemoryUptoCard

/-- THE SECOND FORM's CARD OF 'turnstilelaw09.SegmentCuts'. -/
def segmentCutsUptoCard : Claim7 := { stood := { row := segmentCutsUptoRow, standIns := [], harness := (true, "04b1c94b449c0ca5da8f35b81b9bccc7744a9b93febf5f313788cbd3d6bbabfd"), looks := true }, kinds := [], alts := [], laidByText := true, laidKinds := [.data, .data, .data, .data, .data, .sentinel, .sentinel, .sentinel, .sentinel, .sentinel, .sentinel, .sentinel, .sentinel, .sentinel, .sentinel, .sentinel, .pinned], laidTests := true, laidLooks := .later }
def SegmentCutsUptoCardSaid : Prop := Claim7.holds Tryz.pinned (.plain (OpenSpec.upto segmentCutsSpec)) segmentCutsUptoCard

/-- THE SECOND FORM's CARD OF 'turnstilelaw09.SegmentSick'. -/
def segmentSickUptoCard : Claim7 := { stood := { row := segmentSickUptoRow, standIns := [], harness := (true, "04b1c94b449c0ca5da8f35b81b9bccc7744a9b93febf5f313788cbd3d6bbabfd"), looks := true }, kinds := [], alts := [], laidByText := true, laidKinds := [.data, .data, .data, .data, .data, .sentinel, .sentinel, .sentinel, .sentinel, .sentinel, .sentinel, .sentinel, .sentinel, .sentinel, .sentinel, .sentinel, .pinned], laidTests := true, laidLooks := .later }
def SegmentSickUptoCardSaid : Prop := Claim7.holds Tryz.pinned (.plain (OpenSpec.upto segmentSickSpec)) segmentSickUptoCard

/-- THE SECOND FORM's CARD OF 'turnstilelaw09.SegmentNames'. -/
def segmentNamesUptoCard : Claim7 := { stood := { row := segmentNamesUptoRow, standIns := [], harness := (true, "04b1c94b449c0ca5da8f35b81b9bccc7744a9b93febf5f313788cbd3d6bbabfd"), looks := true }, kinds := [], alts := [], laidByText := true, laidKinds := [.data, .data, .data, .data, .data, .sentinel, .sentinel, .sentinel, .sentinel, .sentinel, .sentinel, .sentinel, .sentinel, .sentinel, .sentinel, .sentinel, .sentinel, .sentinel, .pinned], laidTests := true, laidLooks := .later }
def SegmentNamesUptoCardSaid : Prop := Claim7.holds Tryz.pinned (.plain (OpenSpec.upto segmentNamesSpec)) segmentNamesUptoCard

/-- THE SECOND FORM's CARD OF 'turnstilelaw09.SegmentSafe'. -/
def segmentSafeUptoCard : Claim7 := { stood := { row := segmentSafeUptoRow, standIns := [], harness := (true, "04b1c94b449c0ca5da8f35b81b9bccc7744a9b93febf5f313788cbd3d6bbabfd"), looks := true }, kinds := [], alts := [], laidByText := true, laidKinds := [.data, .data, .data, .data, .data, .sentinel, .sentinel, .sentinel, .sentinel, .sentinel, .sentinel, .sentinel, .sentinel, .sentinel, .sentinel, .sentinel, .sentinel, .pinned], laidTests := true, laidLooks := .later }
def SegmentSafeUptoCardSaid : Prop := Claim7.holds Tryz.pinned (.plain (OpenSpec.upto segmentSafeSpec)) segmentSafeUptoCard
end Rows
end Go.Proofs.YtpckkdjdjkjapaaGreatDoor
