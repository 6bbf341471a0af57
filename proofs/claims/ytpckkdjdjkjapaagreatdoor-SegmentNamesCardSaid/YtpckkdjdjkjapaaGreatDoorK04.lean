/- A part of the proof of segmentNames_holds: JnNames. No condition. -/
import Derived.ProofKit
import Derived.OpenShut
import Derived.LaidLaws
import Derived.Deep.DeepHandedRow
import Derived.Test.YtpckkdjdjkjapaaGreatDoorRows
import Derived.Test.YtpckkdjdjkjapaaGreatDoorCards
import Derived.Test.YtpckkdjdjkjapaaGreatDoorTie
import Derived.Test.YtpckkdjdjkjapaaGreatDoorC01

/- SegmentNames: the row's closed cells, each by itself (printed by wip/tools/gen_row9.py). -/
namespace Go.Proofs.YtpckkdjdjkjapaaGreatDoor.segmentNames
open Go.ChangeShapes Go.WideShapes Go.ChangeAt Go.RowKit
set_option linter.unusedVariables false
theorem and_mk {a b : Bool} (h : a = true) (k : b = true) : (a && b) = true := by rw [h, k]; rfl
set_option maxRecDepth 100000 in
set_option maxHeartbeats 2000000 in
theorem facts : joinedFacts Tryz.pinned.checked.prog 7 Tryz.f7 (OpenSpec.ofChange Rows.segmentNamesSpec).bare Rows.segmentNamesRow = true := by
  unfold joinedFacts
  repeat' (with_reducible apply and_mk)
  all_goals as_aux_lemma => kernel_rfl
end Go.Proofs.YtpckkdjdjkjapaaGreatDoor.segmentNames
