/- A part of the proof of diskSectors_holds: Es. No condition. -/
import Derived.Test.YtglhedahannjiaaGreatDoorC14

/- An image's files, read. -/
namespace Go.Proofs.YtglhedahannjiaaGreatDoor.Dw
open Go.RowKit Go.ChangeMaps Go.Proofs.YtglhedahannjiaaGreatDoor.Mp Go.Proofs.YtglhedahannjiaaGreatDoor.Dm Go.Proofs.YtglhedahannjiaaGreatDoor.Da
open Go.Proofs.YtglhedahannjiaaGreatDoorW.PrintWords
set_option linter.unusedVariables false
theorem img_file {w : World} {base : Nat} {ok : Nat → Prop} {v : Value} {l : List Plain} (h : fileK.R 41 w base ok v l) (j : Nat) (p : Plain) (hp : l[j]? = some p) :
    ∃ g c dv bv, v = .slice (some ⟨g, 0, none⟩) l.length c ∧ l.length ≤ c ∧ w.cell? ⟨g, j * 3, none⟩ = some (.string p.name) ∧ w.cell? ⟨g, j * 3 + 1, none⟩ = some dv ∧ w.cell? ⟨g, j * 3 + 2, none⟩ = some bv ∧
      w.ownsRow base 5 1 dv p.data.length (u8s p.data) ∧ w.ownsRow base 3 1 bv p.bad.length (i64s p.bad) := by
  obtain ⟨h0, inner, ho, hr⟩ := h
  have hj : j < l.length := (List.getElem?_eq_some_iff.1 hp).1
  obtain ⟨g, c, rfl, h1, h2, h3⟩ := row_shape ho (by omega)
  obtain ⟨c0, c1, hc, e0, c2, c3, rfl, ⟨dv, rfl, hd⟩, ⟨bv, rfl, hb⟩⟩ := hr.2 j p hp
  have e0 : c0 = [.string p.name] := e0
  subst e0
  have hk : ∀ i u, (([.string p.name] ++ ([dv] ++ [bv]) : List Value))[i]? = some u → w.cell? ⟨g, j * 3 + i, none⟩ = some u := by
    intro i u hu
    rw [← hc, List.getElem?_take] at hu
    split at hu
    · rw [List.getElem?_drop] at hu
      have := ho.cells (g := g) rfl (j * 3 + i) u hu
      rw [add_off, Nat.zero_add] at this
      exact this
    · cases hu
  exact ⟨g, c, dv, bv, rfl, h1, hk 0 _ rfl, hk 1 _ rfl, hk 2 _ rfl, Kd.own_of_R hd, Kd.own_of_R hb⟩
end Go.Proofs.YtglhedahannjiaaGreatDoor.Dw
