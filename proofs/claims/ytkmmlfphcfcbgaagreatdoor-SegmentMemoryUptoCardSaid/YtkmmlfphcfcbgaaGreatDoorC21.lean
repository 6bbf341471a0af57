/- A part of the proof of segmentMemoryUpto_holds: Fd. No condition. -/
import Derived.Test.YtkmmlfphcfcbgaaGreatDoorC20

/- Walks: Load. -/
namespace Go.Proofs.YtkmmlfphcfcbgaaGreatDoor.Dw
open Go.RowKit Go.ChangeMaps Go.Proofs.YtkmmlfphcfcbgaaGreatDoor.Mp Go.Proofs.YtkmmlfphcfcbgaaGreatDoor.Dm Go.Proofs.YtkmmlfphcfcbgaaGreatDoor.Da
open Go.Proofs.YtkmmlfphcfcbgaaGreatDoorW.PrintWords (Kd add_field)
set_option linter.unusedVariables false
set_option linter.unusedSimpArgs false
set_option linter.unusedSectionVars false
theorem frm_cell {w w' : World} (h : Frm (fun _ => False) w w') {a : Addr} {v : Value} (hc : w.cell? a = some v) : w'.cell? a = some v := by
  rw [← hc]
  exact World.cell?_of_block (h.block _ (World.block_lt_of_cell? w _ hc) id)
theorem BytesAt.frm {w w' : World} {v : Value} {xs : List Int} (h : BytesAt w v xs) (hf : Frm (fun _ => False) w w') : BytesAt w' v xs := by
  obtain ⟨p, c, rfl, h⟩ := h
  refine ⟨p, c, rfl, fun j u hu => ?_⟩
  obtain ⟨a, e, hc⟩ := h j u hu
  exact ⟨a, e, frm_cell hf hc⟩
/-- In Load's loop. -/
structure LoadInv (w wr : World) (bx bb : Nat) (Ap : Option Addr) (n c : Nat) (A : Adr) (lab : Nat → Option Lb) (D : Disk) : Prop where
  frm : Frm (fun _ => False) w wr
  box : wr.heap[bx]? = some (.cells #[.slice Ap n c] 74 (0, 0))
  dsk : DiskAt (bx + 1) wr bb A lab D
theorem LoadInv.step {w wr w2 : World} {bx bb : Nat} {Ap : Option Addr} {n c : Nat} {A A2 : Adr} {lab lab2 : Nat → Option Lb} {D D2 : Disk} (h : LoadInv w wr bx bb Ap n c A lab D) (hb : bx = w.heap.size) (hf : Frm (Ft lab) wr w2) (hd : DiskAt (bx + 1) w2 bb A2 lab2 D2) : LoadInv w w2 bx bb Ap n c A2 lab2 D2 :=
  ⟨h.dsk.high h.frm (by omega) hf, (hf.block bx (Da.blk_lt h.box) (fun hk => by
    obtain ⟨p, hp⟩ := Option.isSome_iff_exists.1 hk
    have := (h.dsk.base _ p hp).1
    omega)).trans h.box, hd⟩
/-- .. in a round: the file's own copy lies at s6. -/
structure MidInv (w wr : World) (bx bb : Nat) (Ap : Option Addr) (n c : Nat) (A : Adr) (lab : Nat → Option Lb) (D : Disk) (s6 : Nat) (o : Obj) : Prop where
  inv : LoadInv w wr bx bb Ap n c A lab D
  fil : wr.heap[s6]? = some o
  lno : lab s6 = none
theorem MidInv.step {w wr w2 : World} {bx bb : Nat} {Ap : Option Addr} {n c : Nat} {A A2 : Adr} {lab lab2 : Nat → Option Lb} {D D2 : Disk} {s6 : Nat} {o : Obj} (h : MidInv w wr bx bb Ap n c A lab D s6 o) (hb : bx = w.heap.size) (hf : Frm (Ft lab) wr w2) (hd : DiskAt (bx + 1) w2 bb A2 lab2 D2) (hl : lab2 s6 = none) : MidInv w w2 bx bb Ap n c A2 lab2 D2 s6 o :=
  ⟨h.inv.step hb hf hd, (hf.block s6 (Da.blk_lt h.fil) (by unfold Ft; rw [h.lno]; simp)).trans h.fil, hl⟩
end Go.Proofs.YtkmmlfphcfcbgaaGreatDoor.Dw
