/- A part of the proof of diskDown_holds: Fl, Dp7. No condition. -/
import Derived.Test.YtglhedahannjiaaGreatDoorC28

/- Walks: all: a fate for each sector of an image's files, and some more. -/
namespace Go.Proofs.YtglhedahannjiaaGreatDoor.Dm
set_option linter.unusedVariables false
end Go.Proofs.YtglhedahannjiaaGreatDoor.Dm
namespace Go.Proofs.YtglhedahannjiaaGreatDoor.Dw
open Go.RowKit Go.ChangeMaps Go.Proofs.YtglhedahannjiaaGreatDoor.Mp Go.Proofs.YtglhedahannjiaaGreatDoor.Dm Go.Proofs.YtglhedahannjiaaGreatDoor.Da
open Go.Proofs.YtglhedahannjiaaGreatDoorW.PrintWords (Kd ReadsInt own_store nums)
set_option linter.unusedVariables false
set_option linter.unusedSimpArgs false
set_option linter.unusedSectionVars false
end Go.Proofs.YtglhedahannjiaaGreatDoor.Dw

/- The pure disk: all kept is what is seen. -/
namespace Go.Proofs.YtglhedahannjiaaGreatDoor.Dm
set_option linter.unusedVariables false
theorem fresh_off (D : Disk) : D.fresh.off = false := by
  unfold Disk.fresh
  by_cases h : D.off = true
  · rw [if_pos h]; rfl
  · rw [if_neg h]
    unfold Disk.arm
    rw [if_neg h]
    simpa using h
theorem Inv.fresh {D : Disk} (h : Inv D) : Inv D.fresh := by
  unfold Disk.fresh
  split
  · have hc := crash_img h [] 0
    exact Inv.load hc.good hc.bytes
  · exact h.arm [] 0
theorem seen_len {D : Disk} (h : Inv D) {m : Nat} (hm : ∀ f, f ∈ D.files → f.seen.length ≤ m) : D.seenImg.length ≤ D.files.length ∧ ∀ p, p ∈ D.seenImg → p.data.length ≤ m := by
  unfold Disk.seenImg
  split
  · simp
  · refine ⟨by rw [List.length_map, (inOrder_perm _).length_eq]; exact h.now.len_le, fun p hp => ?_⟩
    obtain ⟨q, hq, rfl⟩ := List.mem_map.1 hp
    have hlt := h.now.lt q ((inOrder_perm _).mem_iff.1 hq)
    show (D.file q.2).seen.length ≤ m
    unfold Disk.file
    rw [List.getElem?_eq_getElem hlt]
    exact hm _ (List.getElem_mem hlt)
end Go.Proofs.YtglhedahannjiaaGreatDoor.Dm
