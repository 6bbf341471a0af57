/- A part of the proof of segmentMemoryUpto_holds: Dl. No condition. -/
import Derived.Test.YtkmmlfphcfcbgaaGreatDoorC17

/- Walks: Rename's closures. -/
namespace Go.Proofs.YtkmmlfphcfcbgaaGreatDoor.Dw
open Go.RowKit Go.ChangeMaps Go.Proofs.YtkmmlfphcfcbgaaGreatDoor.Mp Go.Proofs.YtkmmlfphcfcbgaaGreatDoor.Dm Go.Proofs.YtkmmlfphcfcbgaaGreatDoor.Da
set_option linter.unusedVariables false
set_option linter.unusedSimpArgs false
set_option linter.unusedSectionVars false
end Go.Proofs.YtkmmlfphcfcbgaaGreatDoor.Dw
