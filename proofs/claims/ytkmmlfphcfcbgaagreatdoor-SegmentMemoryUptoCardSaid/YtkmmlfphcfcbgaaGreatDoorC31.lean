/- A part of the proof of segmentMemoryUpto_holds: JnMemory. No condition. -/
import Derived.ProofKit
import Derived.OpenShut
import Derived.LaidLaws
import Derived.Deep.DeepHandedRow
import Derived.Test.YtkmmlfphcfcbgaaGreatDoorRows
import Derived.Test.YtkmmlfphcfcbgaaGreatDoorCards
import Derived.Test.YtkmmlfphcfcbgaaGreatDoorTie
import Derived.Test.YtkmmlfphcfcbgaaGreatDoorC01

/- SegmentMemory: the row's closed cells, each by itself (printed by wip/tools/gen_row9.py). -/
namespace Go.Proofs.YtkmmlfphcfcbgaaGreatDoor.segmentMemory
open Go.ChangeShapes Go.WideShapes Go.ChangeAt Go.RowKit
set_option linter.unusedVariables false
theorem and_mk {a b : Bool} (h : a = true) (k : b = true) : (a && b) = true := by rw [h, k]; rfl
set_option maxRecDepth 100000 in
set_option maxHeartbeats 2000000 in
theorem facts : joinedFacts Tryz.pinned.checked.prog 3 Tryz.f3 (Rows.OpenSpec.upto Rows.segmentMemorySpec).bare Rows.segmentMemoryUptoRow = true := by
  unfold joinedFacts
  repeat' (with_reducible apply and_mk)
  all_goals as_aux_lemma => kernel_rfl
end Go.Proofs.YtkmmlfphcfcbgaaGreatDoor.segmentMemory
