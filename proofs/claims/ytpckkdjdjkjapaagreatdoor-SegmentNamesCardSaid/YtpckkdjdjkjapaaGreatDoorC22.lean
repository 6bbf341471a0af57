/- A part of the proof of segmentSick_holds: Fd0, Es. No condition. -/
import Derived.Test.YtpckkdjdjkjapaaGreatDoorC21

/- One file of a disk in memory turns while an image is loaded; bytes cloned from anywhere. -/
namespace Go.Proofs.YtpckkdjdjkjapaaGreatDoor.Da
open Go.RowKit Go.ChangeMaps Go.Proofs.YtpckkdjdjkjapaaGreatDoor.Mp Go.Proofs.YtpckkdjdjkjapaaGreatDoor.Dm Go.Proofs.YtpckkdjdjkjapaaGreatDoor.Dw
set_option linter.unusedVariables false
set_option linter.unusedSimpArgs false
set_option linter.unusedSectionVars false
section
variable {B : Nat} {w w' : World} {b : Nat} {A : Adr} {lab lab' : Nat → Option Lb} {D : Disk}
/-- A disk's own blocks lie above. -/
theorem DiskAt.high (h : DiskAt B w b A lab D) {w0 : World} (h0 : Frm (fun _ => False) w0 w) (hB : w0.heap.size ≤ B) {w' : World} (hf : Frm (Ft lab) w w') : Frm (fun _ => False) w0 w' :=
  h0.trans hf fun k hk hl => by
    obtain ⟨p, hp⟩ := Option.isSome_iff_exists.1 hl
    have := (h.base k p hp).1
    omega
end
end Go.Proofs.YtpckkdjdjkjapaaGreatDoor.Da
namespace Go.Proofs.YtpckkdjdjkjapaaGreatDoor.Dw
open Go.RowKit Go.ChangeMaps Go.Proofs.YtpckkdjdjkjapaaGreatDoor.Mp Go.Proofs.YtpckkdjdjkjapaaGreatDoor.Dm Go.Proofs.YtpckkdjdjkjapaaGreatDoor.Da Go.Shelf
set_option linter.unusedVariables false
set_option linter.unusedSimpArgs false
set_option linter.unusedSectionVars false
/-- Bytes lie in a slice, wherever. -/
def BytesAt (w : World) (v : Value) (xs : List Int) : Prop := ∃ p c, v = .slice p xs.length c ∧ ∀ j u, (u8s xs)[j]? = some u → ∃ a, p = some a ∧ w.cell? (a.add j) = some u
end Go.Proofs.YtpckkdjdjkjapaaGreatDoor.Dw

/- An image's files, read. -/
namespace Go.Proofs.YtpckkdjdjkjapaaGreatDoor.Dw
open Go.RowKit Go.ChangeMaps Go.Proofs.YtpckkdjdjkjapaaGreatDoor.Mp Go.Proofs.YtpckkdjdjkjapaaGreatDoor.Dm Go.Proofs.YtpckkdjdjkjapaaGreatDoor.Da
open Go.Proofs.YtpckkdjdjkjapaaGreatDoorW.PrintWords
set_option linter.unusedVariables false
end Go.Proofs.YtpckkdjdjkjapaaGreatDoor.Dw
