/-
  DERIVED. GIVEN WITH THE SEED: THE CARDS: each row of YtkmmlfphcfcbgaaGreatDoorRows.lean that lists a variable, with what it lists TIED to the program's text (the seventh form; the later family's looks); each row that meets fmt, with fmt's text TOLD by the authors' own Lean function (tested against real Go, not proved from fmt's source: count such statements apart). THE CARD IS WHAT COUNTS. Prove the row's statement (the work); the ties are given (YtkmmlfphcfcbgaaGreatDoorTie.lean); close each card by the builder's one call (the guide's Derived/Test/ToyasCard.lean, 'card_holds'). Laid BY PROGRAM, IN A SANDBOX (cutbox-door.mjs). By AI agents, Wed Nov 11 2026. No macro, syntax, notation, axiom, sorry.
-/
import Derived.Test.YtkmmlfphcfcbgaaGreatDoorRows
import GoSem.ClaimSeven
namespace Go.Proofs.YtkmmlfphcfcbgaaGreatDoor
namespace Rows

/-- THE TIED CARD OF 'turnstilelaw09.SegmentMemory'. -/
def segmentMemoryCard : Claim7 := { stood := { row := segmentMemoryRow, standIns := [], harness := (true, "36018505355cb4429e14fd8067b7c4fe79a2d2e15fb88164d9284cd0d93c0c3b"), looks := true }, kinds := [], alts := [], laidByText := true, laidKinds := [.data, .data, .data, .data, .data, .sentinel, .sentinel, .sentinel, .sentinel, .sentinel, .sentinel, .sentinel, .sentinel, .sentinel, .sentinel, .sentinel, .pinned], laidTests := true, laidLooks := .later }
def SegmentMemoryCardSaid : Prop := Claim7.holds Tryz.pinned (.plain (OpenSpec.ofChange segmentMemorySpec)) segmentMemoryCard

/-- THE TIED CARD OF 'turnstilelaw15.SnapNames'. -/
def snapNamesCard : Claim7 := { stood := { row := snapNamesRow, standIns := [], harness := (true, "36018505355cb4429e14fd8067b7c4fe79a2d2e15fb88164d9284cd0d93c0c3b"), looks := true }, kinds := [], alts := [], laidByText := true, laidKinds := [.data, .data, .data, .data, .sentinel, .sentinel, .sentinel, .sentinel, .sentinel, .sentinel, .sentinel, .sentinel, .sentinel, .sentinel, .sentinel, .sentinel], laidTests := true, laidLooks := .later }
def SnapNamesCardSaid : Prop := Claim7.holds Tryz.pinned (.plain (OpenSpec.ofChange snapNamesSpec)) snapNamesCard

/-- THE TIED CARD OF 'turnstilelaw15.SnapMemory'. -/
def snapMemoryCard : Claim7 := { stood := { row := snapMemoryRow, standIns := [], harness := (true, "36018505355cb4429e14fd8067b7c4fe79a2d2e15fb88164d9284cd0d93c0c3b"), looks := true }, kinds := [], alts := [], laidByText := true, laidKinds := [.data, .data, .data, .data, .sentinel, .sentinel, .sentinel, .sentinel, .sentinel, .sentinel, .sentinel, .sentinel, .sentinel, .sentinel, .sentinel, .sentinel], laidTests := true, laidLooks := .later }
def SnapMemoryCardSaid : Prop := Claim7.holds Tryz.pinned (.plain (OpenSpec.ofChange snapMemorySpec)) snapMemoryCard

/-- THE TIED CARD OF 'turnstilelaw15.SnapCleans'. -/
def snapCleansCard : Claim7 := { stood := { row := snapCleansRow, standIns := [], harness := (true, "36018505355cb4429e14fd8067b7c4fe79a2d2e15fb88164d9284cd0d93c0c3b"), looks := true }, kinds := [], alts := [], laidByText := true, laidKinds := [.data, .data, .data, .data, .sentinel, .sentinel, .sentinel, .sentinel, .sentinel, .sentinel, .sentinel, .sentinel, .sentinel, .sentinel, .sentinel, .sentinel], laidTests := true, laidLooks := .later }
def SnapCleansCardSaid : Prop := Claim7.holds Tryz.pinned (.plain (OpenSpec.ofChange snapCleansSpec)) snapCleansCard

/-- THE TIED CARD OF 'turnstilelaw15.SnapSpoilt'. -/
def snapSpoiltCard : Claim7 := { stood := { row := snapSpoiltRow, standIns := [], harness := (true, "36018505355cb4429e14fd8067b7c4fe79a2d2e15fb88164d9284cd0d93c0c3b"), looks := true }, kinds := [], alts := [], laidByText := true, laidKinds := [.data, .data, .data, .data, .sentinel, .sentinel, .sentinel, .sentinel, .sentinel, .sentinel, .sentinel, .sentinel, .sentinel, .sentinel, .sentinel, .sentinel, .sentinel], laidTests := true, laidLooks := .later }
def SnapSpoiltCardSaid : Prop := Claim7.holds Tryz.pinned (.plain (OpenSpec.ofChange snapSpoiltSpec)) snapSpoiltCard

/-- THE TIED CARD OF 'turnstilelaw15.SnapWhole'. -/
def snapWholeCard : Claim7 := { stood := { row := snapWholeRow, standIns := [], harness := (true, "36018505355cb4429e14fd8067b7c4fe79a2d2e15fb88164d9284cd0d93c0c3b"), looks := true }, kinds := [], alts := [], laidByText := true, laidKinds := [.data, .data, .data, .data, .sentinel, .sentinel, .sentinel, .sentinel, .sentinel, .sentinel, .sentinel, .sentinel, .sentinel, .sentinel, .sentinel, .sentinel, .sentinel], laidTests := true, laidLooks := .later }
def SnapWholeCardSaid : Prop := Claim7.holds Tryz.pinned (.plain (OpenSpec.ofChange snapWholeSpec)) snapWholeCard

/-- THE TIED CARD OF 'turnstilelaw15.SnapNewest'. -/
def snapNewestCard : Claim7 := { stood := { row := snapNewestRow, standIns := [], harness := (true, "36018505355cb4429e14fd8067b7c4fe79a2d2e15fb88164d9284cd0d93c0c3b"), looks := true }, kinds := [], alts := [], laidByText := true, laidKinds := [.data, .data, .data, .data, .sentinel, .sentinel, .sentinel, .sentinel, .sentinel, .sentinel, .sentinel, .sentinel, .sentinel, .sentinel, .sentinel, .sentinel, .sentinel], laidTests := true, laidLooks := .later }
def SnapNewestCardSaid : Prop := Claim7.holds Tryz.pinned (.plain (OpenSpec.ofChange snapNewestSpec)) snapNewestCard

/-- THE SECOND FORM's CARD OF 'turnstilelaw09.SegmentMemory'. -/
def segmentMemoryUptoCard : Claim7 := { stood := { row := segmentMemoryUptoRow, standIns := [], harness := (true, "36018505355cb4429e14fd8067b7c4fe79a2d2e15fb88164d9284cd0d93c0c3b"), looks := true }, kinds := [], alts := [], laidByText := true, laidKinds := [.data, .data, .data, .data, .data, .sentinel, .sentinel, .sentinel, .sentinel, .sentinel, .sentinel, .sentinel, .sentinel, .sentinel, .sentinel, .sentinel, .pinned], laidTests := true, laidLooks := .later }
def SegmentMemoryUptoCardSaid : Prop := Claim7.holds Tryz.pinned (.plain (OpenSpec.upto segmentMemorySpec)) segmentMemoryUptoCard

/-- THE SECOND FORM's CARD OF 'turnstilelaw15.SnapNames'. -/
def snapNamesUptoCard : Claim7 := { stood := { row := snapNamesUptoRow, standIns := [], harness := (true, "36018505355cb4429e14fd8067b7c4fe79a2d2e15fb88164d9284cd0d93c0c3b"), looks := true }, kinds := [], alts := [], laidByText := true, laidKinds := [.data, .data, .data, .data, .sentinel, .sentinel, .sentinel, .sentinel, .sentinel, .sentinel, .sentinel, .sentinel, .sentinel, .sentinel, .sentinel, .sentinel], laidTests := true, laidLooks := .later }
def SnapNamesUptoCardSaid : Prop := Claim7.holds Tryz.pinned (.plain (OpenSpec.upto snapNamesSpec)) snapNamesUptoCard

/-- THE SECOND FORM's CARD OF 'turnstilelaw15.SnapMemory'. -/
def snapMemoryUptoCard : Claim7 := { stood := { row := snapMemoryUptoRow, standIns := [], harness := (true, "36018505355cb4429e14fd8067b7c4fe79a2d2e15fb88164d9284cd0d93c0c3b"), looks := true }, kinds := [], alts := [], laidByText := true, laidKinds := [.data, .data, .data, .data, .sentinel, .sentinel, .sentinel, .sentinel, .sentinel, .sentinel, .sentinel, .sentinel, .sentinel, .sentinel, .sentinel, .sentinel], laidTests := true, laidLooks := .later }
def SnapMemoryUptoCardSaid : Prop := Claim7.holds Tryz.pinned (.plain (OpenSpec.upto snapMemorySpec)) snapMemoryUptoCard

/-- THE SECOND FORM's CARD OF 'turnstilelaw15.SnapCleans'. -/
def snapCleansUptoCard : Claim7 := { stood := { row := snapCleansUptoRow, standIns := [], harness := (true, "36018505355cb4429e14fd8067b7c4fe79a2d2e15fb88164d9284cd0d93c0c3b"), looks := true }, kinds := [], alts := [], laidByText := true, laidKinds := [.data, .data, .data, .data, .sentinel, .sentinel, .sentinel, .sentinel, .sentinel, .sentinel, .sentinel, .sentinel, .sentinel, .sentinel, .sentinel, .sentinel], laidTests := true, laidLooks := .later }
def SnapCleansUptoCardSaid : Prop := Claim7.holds Tryz.pinned (.plain (OpenSpec.upto snapCleansSpec)) snapCleansUptoCard

/-- THE SECOND FORM's CARD OF 'turnstilelaw15.SnapSpoilt'. -/
def snapSpoiltUptoCard : Claim7 := { stood := { row := snapSpoiltUptoRow, standIns := [], harness := (true, "36018505355cb4429e14fd8067b7c4fe79a2d2e15fb88164d9284cd0d93c0c3b"), looks := true }, kinds := [], alts := [], laidByText := true, laidKinds := [.data, .data, .data, .data, .sentinel, .sentinel, .sentinel, .sentinel, .sentinel, .sentinel, .sentinel, .sentinel, .sentinel, .sentinel, .sentinel, .sentinel, .sentinel], laidTests := true, laidLooks := .later }
def SnapSpoiltUptoCardSaid : Prop := Claim7.holds Tryz.pinned (.plain (OpenSpec.upto snapSpoiltSpec)) snapSpoiltUptoCard

/-- THE SECOND FORM's CARD OF 'turnstilelaw15.SnapWhole'. -/
def snapWholeUptoCard : Claim7 := { stood := { row := snapWholeUptoRow, standIns := [], harness := (true, "36018505355cb4429e14fd8067b7c4fe79a2d2e15fb88164d9284cd0d93c0c3b"), looks := true }, kinds := [], alts := [], laidByText := true, laidKinds := [.data, .data, .data, .data, .sentinel, .sentinel, .sentinel, .sentinel, .sentinel, .sentinel, .sentinel, .sentinel, .sentinel, .sentinel, .sentinel, .sentinel, .sentinel], laidTests := true, laidLooks := .later }
def SnapWholeUptoCardSaid : Prop := Claim7.holds Tryz.pinned (.plain (OpenSpec.upto snapWholeSpec)) snapWholeUptoCard

/-- THE SECOND FORM's CARD OF 'turnstilelaw15.SnapNewest'. -/
def snapNewestUptoCard : Claim7 := { stood := { row := snapNewestUptoRow, standIns := [], harness := (true, "36018505355cb4429e14fd8067b7c4fe79a2d2e15fb88164d9284cd0d93c0c3b"), looks := true }, kinds := [], alts := [], laidByText := true, laidKinds := [.data, .data, .data, .data, .sentinel, .sentinel, .sentinel, .sentinel, .sentinel, .sentinel, .sentinel, .sentinel, .sentinel, .sentinel, .sentinel, .sentinel, .sentinel], laidTests := true, laidLooks := .later }
def SnapNewestUptoCardSaid : Prop := Claim7.holds Tryz.pinned (.plain (OpenSpec.upto snapNewestSpec)) snapNewestUptoCard
end Rows
end Go.Proofs.YtkmmlfphcfcbgaaGreatDoor
