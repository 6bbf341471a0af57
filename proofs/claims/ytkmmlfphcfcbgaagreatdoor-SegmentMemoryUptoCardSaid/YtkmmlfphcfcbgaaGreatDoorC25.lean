/- A part of the proof of segmentMemoryUpto_holds: Er. No condition. -/
import Derived.Deep.RegionHeld3
import Derived.Test.YtkmmlfphcfcbgaaGreatDoorC24

/- Walks: lives. -/
namespace Go.Proofs.YtkmmlfphcfcbgaaGreatDoor.Dw
open Go.RowKit Go.ChangeMaps Go.Proofs.YtkmmlfphcfcbgaaGreatDoor.Mp Go.Proofs.YtkmmlfphcfcbgaaGreatDoor.Dm Go.Proofs.YtkmmlfphcfcbgaaGreatDoor.Da
open Go.Proofs.YtkmmlfphcfcbgaaGreatDoorW.PrintWords (Kd own_string own_move)
set_option linter.unusedVariables false
set_option linter.unusedSimpArgs false
set_option linter.unusedSectionVars false
theorem Given.own {w : World} {lab : Nat → Option Lb} {base : Nat} {v : Value} {xs : List Int} (h : w.ownsRow base 5 1 v xs.length (u8s xs)) (hl : ∀ g, v.ownBlock = some g → lab g = none) : Given w lab v xs := by
  rcases h.2 with ⟨hv, he⟩ | ⟨g, cap, cur, hv, h1, h2, h3, h4, h5, h6⟩
  · exact ⟨.inl ⟨hv, List.eq_nil_of_length_eq_zero he⟩, fun _ g o n c hh => by rw [hv] at hh; cases hh⟩
  · refine ⟨.inr (.inl ⟨g, 0, cap, hv, fun j u hu => ?_⟩), fun _ g' o n c hh => ?_⟩
    · have := h.cells (g := g) (by rw [hv]; rfl) j u hu
      rw [add_off] at this; exact this
    · rw [hv] at hh
      simp only [Value.slice.injEq, Option.some.injEq, Addr.mk.injEq] at hh
      obtain ⟨⟨rfl, _⟩, _⟩ := hh
      exact ⟨(own_low h (k := g) (by rw [hv]; rfl)).2, hl g (by rw [hv]; rfl)⟩
theorem Live.alloc {B : Nat} {w : World} {b : Nat} {lab : Nat → Option Lb} {eb : Nat → Addr} {L : List Err} {n m : Nat} {D : Disk} (h : Live B w b lab eb L n m D) (o : Obj) : Live B (w.alloc o) b lab eb L n m D := h.frm ((Frm.refl _ _).alloc o)
theorem own_frm_off {F : Nat → Prop} {w w' : World} {base : Nat} {e : TypeId} {size n : Nat} {v : Value} {xs : List Value} (h : w.ownsRow base e size v n xs) (hf : Frm F w w') (hF : ∀ k, v.ownBlock = some k → ¬ F k) : w'.ownsRow base e size v n xs :=
  own_move h fun k hk => hf.block k (own_low h hk).2 (hF k hk)
end Go.Proofs.YtkmmlfphcfcbgaaGreatDoor.Dw
