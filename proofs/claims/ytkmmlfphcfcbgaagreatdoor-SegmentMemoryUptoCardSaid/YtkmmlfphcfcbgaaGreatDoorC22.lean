/- A part of the proof of segmentMemoryUpto_holds: Dtp, Dv, Dx2. No condition. -/
import Derived.StillTailTactics
import Derived.Test.YtkmmlfphcfcbgaaGreatDoorC21

/- Walks: Truncate's plan. -/
namespace Go.Proofs.YtkmmlfphcfcbgaaGreatDoor.Dw
open Go.RowKit Go.ChangeMaps Go.Proofs.YtkmmlfphcfcbgaaGreatDoor.Mp Go.Proofs.YtkmmlfphcfcbgaaGreatDoor.Dm Go.Proofs.YtkmmlfphcfcbgaaGreatDoor.Da
set_option linter.unusedVariables false
set_option linter.unusedSimpArgs false
set_option linter.unusedSectionVars false
end Go.Proofs.YtkmmlfphcfcbgaaGreatDoor.Dw

/- Walks: cutTo. -/
namespace Go.Proofs.YtkmmlfphcfcbgaaGreatDoor.Dw
open Go.RowKit Go.ChangeMaps Go.Proofs.YtkmmlfphcfcbgaaGreatDoor.Mp Go.Proofs.YtkmmlfphcfcbgaaGreatDoor.Dm Go.Proofs.YtkmmlfphcfcbgaaGreatDoor.Da
set_option linter.unusedVariables false
set_option linter.unusedSimpArgs false
set_option linter.unusedSectionVars false
/-- In cutTo's loop. -/
structure CutInv (w wr : World) (m it : Nat) (n : Int) (ks ks' tk : List Int) : Prop where
  frm : Frm (fun x => x = m) w wr
  iter : IterAt (Value.int .i64) wr it m (ent ks') (ent tk)
  nd : ks'.Nodup
  ndt : tk.Nodup
  mem : ∀ k, k ∈ ks' ↔ k ∈ ks ∧ (k ∈ tk ∨ k * 512 < n)
  sub : ∀ k, k ∈ tk → k ∈ ks
theorem CutInv.kept {w wr wr' : World} {m it : Nat} {n : Int} {ks ks' tk tk' : List Int} {y : Int} (h : CutInv w wr m it n ks ks' tk) (hp : tk.Perm (y :: tk')) (hlt : y * 512 < n) (hf : Frm (fun x => x = m) w wr') (hi : IterAt (Value.int .i64) wr' it m (ent ks') (ent tk')) : CutInv w wr' m it n ks ks' tk' := by
  have hn : (y :: tk').Nodup := hp.nodup_iff.1 h.ndt
  refine ⟨hf, hi, h.nd, (List.nodup_cons.1 hn).2, fun k => ?_, fun k hk => h.sub k (hp.mem_iff.2 (List.mem_cons_of_mem _ hk))⟩
  rw [h.mem k, hp.mem_iff, List.mem_cons]
  constructor
  · rintro ⟨h1, (rfl | h2) | h2⟩
    · exact ⟨h1, .inr hlt⟩
    · exact ⟨h1, .inl h2⟩
    · exact ⟨h1, .inr h2⟩
  · rintro ⟨h1, h2 | h2⟩
    · exact ⟨h1, .inl (.inr h2)⟩
    · exact ⟨h1, .inr h2⟩
theorem CutInv.gone {w wr wr' : World} {m it : Nat} {n : Int} {ks ks' tk tk' : List Int} {y : Int} (h : CutInv w wr m it n ks ks' tk) (hp : tk.Perm (y :: tk')) (hlt : ¬ y * 512 < n) (hf : Frm (fun x => x = m) w wr') (hi : IterAt (Value.int .i64) wr' it m (delL (ent ks') y) (ent tk')) : CutInv w wr' m it n ks (ks'.erase y) tk' := by
  have hn : (y :: tk').Nodup := hp.nodup_iff.1 h.ndt
  have hn1 := (List.nodup_cons.1 hn).1
  rw [delL_ent] at hi
  refine ⟨hf, hi, h.nd.erase _, (List.nodup_cons.1 hn).2, fun k => ?_, fun k hk => h.sub k (hp.mem_iff.2 (List.mem_cons_of_mem _ hk))⟩
  rw [h.nd.mem_erase_iff, h.mem k, hp.mem_iff, List.mem_cons]
  constructor
  · rintro ⟨h0, h1, (rfl | h2) | h2⟩
    · exact absurd rfl h0
    · exact ⟨h1, .inl h2⟩
    · exact ⟨h1, .inr h2⟩
  · rintro ⟨h1, h2 | h2⟩
    · exact ⟨fun e => hn1 (e ▸ h2), h1, .inl (.inr h2)⟩
    · exact ⟨fun e => hlt (e ▸ h2), h1, .inr h2⟩
end Go.Proofs.YtkmmlfphcfcbgaaGreatDoor.Dw

/- A file is cut: what the memory is then. -/
namespace Go.Proofs.YtkmmlfphcfcbgaaGreatDoor.Da
open Go.RowKit Go.ChangeMaps Go.Proofs.YtkmmlfphcfcbgaaGreatDoor.Mp Go.Proofs.YtkmmlfphcfcbgaaGreatDoor.Dm
set_option linter.unusedVariables false
set_option linter.unusedSimpArgs false
set_option linter.unusedSectionVars false
section
variable {B : Nat} {w w3 : World} {b : Nat} {A : Adr} {lab : Nat → Option Lb} {D : Disk}
end
end Go.Proofs.YtkmmlfphcfcbgaaGreatDoor.Da
