/- A part of the proof of segmentSick_holds: Dl. No condition. -/
import Derived.Test.YtpckkdjdjkjapaaGreatDoorC17

/- Walks: Rename's closures. -/
namespace Go.Proofs.YtpckkdjdjkjapaaGreatDoor.Dw
open Go.RowKit Go.ChangeMaps Go.Proofs.YtpckkdjdjkjapaaGreatDoor.Mp Go.Proofs.YtpckkdjdjkjapaaGreatDoor.Dm Go.Proofs.YtpckkdjdjkjapaaGreatDoor.Da
set_option linter.unusedVariables false
set_option linter.unusedSimpArgs false
set_option linter.unusedSectionVars false
end Go.Proofs.YtpckkdjdjkjapaaGreatDoor.Dw
