/- A part of the proof of diskDown_holds: Eu. No condition. -/
import Derived.Test.YtglhedahannjiaaGreatDoorC24

/- Walks: DiskSectors, its helpers. -/
namespace Go.Proofs.YtglhedahannjiaaGreatDoor.Dw
open Go.RowKit Go.ChangeMaps Go.Proofs.YtglhedahannjiaaGreatDoor.Mp Go.Proofs.YtglhedahannjiaaGreatDoor.Dm Go.Proofs.YtglhedahannjiaaGreatDoor.Da
open Go.Proofs.YtglhedahannjiaaGreatDoorW.PrintWords (Kd ReadsInt string_of_reads)
set_option linter.unusedVariables false
set_option linter.unusedSimpArgs false
set_option linter.unusedSectionVars false
theorem ErrsAt.up {B B' : Nat} {w : World} {eb : Nat → Addr} {L : List Err} (h : ErrsAt B w eb L) (hB : B ≤ B') : ErrsAt B' w eb L :=
  ⟨h.var, h.blk, fun c hc => Nat.lt_of_lt_of_le (h.ebl c hc) hB, fun c hc => Nat.lt_of_lt_of_le (h.low c hc) hB, h.inj, h.six⟩
theorem reads_old {w w' : World} {k : IntKind} {A : Option Addr} {n : Nat} {xs : List Int} {B : Nat} (h : ReadsInt w k A n xs) (hf : Frm (fun k => B ≤ k) w w') (hB : w.heap.size ≤ B) : ReadsInt w' k A n xs := by
  refine ⟨h.1, h.2.1, fun hn => ?_⟩
  obtain ⟨ad, e, hc⟩ := h.2.2 hn
  refine ⟨ad, e, fun j hj => ?_⟩
  have hj' := hc j hj
  have hlt := World.block_lt_of_cell? w _ hj'
  rw [← hj']
  simp only [World.cell?]
  rw [hf.block _ hlt (by omega)]
theorem reads_spot {w : World} {k : IntKind} {A : Option Addr} {n : Nat} {xs : List Int} (h : ReadsInt w k A n xs) (hn : 0 < n) : ∃ g o, A = some ⟨g, o, none⟩ ∧ g < w.heap.size := by
  obtain ⟨⟨g, o, sp⟩, e, hc⟩ := h.2.2 hn
  have h0 := hc 0 hn
  have hlt := World.block_lt_of_cell? w _ h0
  simp only [Addr.add, if_true] at h0 hlt
  simp only [World.cell?] at h0
  cases sp with
  | none => exact ⟨g, o, e, hlt⟩
  | some s =>
    split at h0
    · simp at h0
    · cases h0
theorem reads_from {w : World} {A : Option Addr} {c : Nat} {xs : List Int} (h : ReadsInt w .u8 A xs.length xs) : FromAt w (.slice A xs.length c) xs := by
  rcases Nat.eq_zero_or_pos xs.length with h0 | h0
  · obtain rfl := List.eq_nil_of_length_eq_zero h0
    exact .inr (.inr ⟨_, _, rfl, rfl⟩)
  · obtain ⟨g, o, rfl, hg⟩ := reads_spot h h0
    obtain ⟨ad, e, hc⟩ := h.2.2 h0
    injection e with e
    subst e
    refine .inr (.inl ⟨g, o, c, rfl, fun j u hu => ?_⟩)
    have hj : j < xs.length := by have := (List.getElem?_eq_some_iff.1 hu).1; simpa [u8s] using this
    have := hc j hj
    rw [add_off] at this
    rw [this, ← hu]
    unfold u8s
    rw [List.getElem?_map, List.getElem?_eq_getElem hj]
    simp [List.getD_eq_getElem?_getD, List.getElem?_eq_getElem hj]
/-- What was there ahead of the disk is none of it. -/
theorem given_old {B : Nat} {w w' : World} {b : Nat} {lab : Nat → Option Lb} {eb : Nat → Addr} {L : List Err} {n m : Nat} {D : Disk} (h : Live B w' b lab eb L n m D) {A : Option Addr} {c : Nat} {xs : List Int} (hr : ReadsInt w .u8 A xs.length xs) (hf : Frm (fun k => B ≤ k) w w') (hB : w.heap.size ≤ B) : Given w' lab (.slice A xs.length c) xs := by
  refine ⟨reads_from (reads_old hr hf hB), fun hx g o n c e => ?_⟩
  obtain ⟨g', o', rfl, hg⟩ := reads_spot hr (List.length_pos_iff.2 hx)
  simp only [Value.slice.injEq, Option.some.injEq, Addr.mk.injEq] at e
  obtain ⟨⟨rfl, rfl, _⟩, _⟩ := e
  refine ⟨Nat.lt_of_lt_of_le hg hf.size, ?_⟩
  rcases hc : lab g' with _ | p
  · rfl
  · have := h.base g' (by unfold Ft; rw [hc]; rfl)
    omega
section
variable {B : Nat} {w0 w : World} {b : Nat} {lab : Nat → Option Lb} {eb : Nat → Addr} {L : List Err} {F S : List Int}
/-- A step of the script: the disk, and what is elder stands. -/
def Step (B : Nat) (w0 w' : World) (b : Nat) (eb : Nat → Addr) (L : List Err) (n m : Nat) (D : Disk) : Prop := ∃ lab', Live B w' b lab' eb L n m D ∧ Frm (fun k => B ≤ k) w0 w'
theorem Next.step {n m n' m' : Nat} {D D' : Disk} {w' : World} (h : Live B w b lab eb L n m D) (hf : Frm (fun k => B ≤ k) w0 w) (hx : Next B w lab w' b eb L n' m' D') : Step B w0 w' b eb L n' m' D' := by
  obtain ⟨lab', h1, h2, h3⟩ := hx
  exact ⟨lab', h1, hf.trans h2 (fun _ _ hk => h.base _ hk)⟩
end
end Go.Proofs.YtglhedahannjiaaGreatDoor.Dw
