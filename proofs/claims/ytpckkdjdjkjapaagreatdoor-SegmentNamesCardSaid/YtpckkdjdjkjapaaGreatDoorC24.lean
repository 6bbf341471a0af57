/- A part of the proof of segmentSick_holds: Fe, Dtp, Dv, Dx2. No condition. -/
import Derived.StillTailTactics
import Derived.Test.YtpckkdjdjkjapaaGreatDoorC23

/- The fifteen errors, and the number of each (printed by wip/tools/gen_of.py). -/
namespace Go.Proofs.YtpckkdjdjkjapaaGreatDoor.Dw
open Go.RowKit Go.ChangeMaps Go.Proofs.YtpckkdjdjkjapaaGreatDoor.Mp Go.Proofs.YtpckkdjdjkjapaaGreatDoor.Dm Go.Proofs.YtpckkdjdjkjapaaGreatDoor.Da
set_option linter.unusedVariables false
set_option linter.unusedSimpArgs false
set_option linter.unusedSectionVars false
/-- The package's variable of each error. -/
def g15 : Nat → Nat
  | 1 => 4
  | 2 => 9
  | 3 => 10
  | 4 => 1
  | 5 => 11
  | 6 => 2
  | 7 => 3
  | 8 => 8
  | 9 => 5
  | 10 => 6
  | 11 => 12
  | 12 => 13
  | 13 => 0
  | 14 => 14
  | _ => 7
/-- The fifteen variables hold their errors, each another one. -/
structure Errs15 (B : Nat) (w : World) (eb : Nat → Addr) : Prop where
  var : ∀ c, 1 ≤ c → c ≤ 15 → w.cell? ⟨g15 c, 0, none⟩ = some (.iface 320 (.pointer (some (eb c))))
  blk : ∀ c, 1 ≤ c → c ≤ 15 → ∃ cs t, w.heap[(eb c).block]? = some (.cells cs t (0, 0))
  ebl : ∀ c, 1 ≤ c → c ≤ 15 → (eb c).block < B
  low : ∀ c, 1 ≤ c → c ≤ 15 → g15 c < B
  inj : ∀ a b, 1 ≤ a → a ≤ 15 → 1 ≤ b → b ≤ 15 → eb a = eb b → a = b
theorem Errs15.frm {B : Nat} {w w' : World} {eb : Nat → Addr} {F : Nat → Prop} (h : Errs15 B w eb) (hf : Frm F w w') (hF : ∀ k, F k → B ≤ k) : Errs15 B w' eb := by
  refine ⟨fun c h1 h2 => ?_, fun c h1 h2 => ?_, h.ebl, h.low, h.inj⟩
  · have h3 := h.var c h1 h2
    have hlt := World.block_lt_of_cell? w _ h3
    rw [← h3]
    exact hf.cell hlt (fun hk => by have := hF _ hk; have := h.low c h1 h2; omega)
  · obtain ⟨cs, t, h3⟩ := h.blk c h1 h2
    have hlt : (eb c).block < w.heap.size := (Array.getElem?_eq_some_iff.1 h3).1
    exact ⟨cs, t, by rw [hf.block _ hlt (fun hk => by have := hF _ hk; have := h.ebl c h1 h2; omega)]; exact h3⟩
theorem Errs15.up {B B' : Nat} {w : World} {eb : Nat → Addr} (h : Errs15 B w eb) (hB : B ≤ B') : Errs15 B' w eb :=
  ⟨h.var, h.blk, fun c h1 h2 => Nat.lt_of_lt_of_le (h.ebl c h1 h2) hB, fun c h1 h2 => Nat.lt_of_lt_of_le (h.low c h1 h2) hB, h.inj⟩
theorem Errs15.eql {B : Nat} {w : World} {eb : Nat → Addr} (h : Errs15 B w eb) (a b : Nat) (h1 : 1 ≤ a) (h2 : a ≤ 15) (h3 : 1 ≤ b) (h4 : b ≤ 15) :
    (binOp .eql 32 (.iface 320 (.pointer (some (eb a)))) (.iface 320 (.pointer (some (eb b))))).run Tryz.prog w = .ok (.bool (decide (a = b))) w := by
  obtain ⟨i, hi, hcmp⟩ := Option.map_eq_some_iff.1 Go.Proofs.YtpckkdjdjkjapaaGreatDoor.Ei.isComp
  obtain ⟨j, hj, hjs⟩ := Option.map_eq_some_iff.1 Go.Proofs.YtpckkdjdjkjapaaGreatDoor.Ei.isSize
  by_cases e : a = b
  · subst e
    rw [decide_eq_true rfl]
    exact run_eql_iface_ptr_same (P := Tryz.prog) w (eb a) Tryz.underlying32 Tryz.underlying320 hi hcmp hj
  · rw [decide_eq_false e]
    obtain ⟨_, _, ha⟩ := h.blk a h1 h2
    obtain ⟨_, _, hb⟩ := h.blk b h3 h4
    exact run_eql_iface_ptr_other (P := Tryz.prog) w Tryz.underlying32 Tryz.underlying320 hi hcmp hj (by rw [hjs]; decide) (fun e2 => e (h.inj a b h1 h2 h3 h4 e2)) ha hb
end Go.Proofs.YtpckkdjdjkjapaaGreatDoor.Dw

/- Walks: Truncate's plan. -/
namespace Go.Proofs.YtpckkdjdjkjapaaGreatDoor.Dw
open Go.RowKit Go.ChangeMaps Go.Proofs.YtpckkdjdjkjapaaGreatDoor.Mp Go.Proofs.YtpckkdjdjkjapaaGreatDoor.Dm Go.Proofs.YtpckkdjdjkjapaaGreatDoor.Da
set_option linter.unusedVariables false
set_option linter.unusedSimpArgs false
set_option linter.unusedSectionVars false
end Go.Proofs.YtpckkdjdjkjapaaGreatDoor.Dw

/- Walks: cutTo. -/
namespace Go.Proofs.YtpckkdjdjkjapaaGreatDoor.Dw
open Go.RowKit Go.ChangeMaps Go.Proofs.YtpckkdjdjkjapaaGreatDoor.Mp Go.Proofs.YtpckkdjdjkjapaaGreatDoor.Dm Go.Proofs.YtpckkdjdjkjapaaGreatDoor.Da
set_option linter.unusedVariables false
set_option linter.unusedSimpArgs false
set_option linter.unusedSectionVars false
/-- In cutTo's loop. -/
structure CutInv (w wr : World) (m it : Nat) (n : Int) (ks ks' tk : List Int) : Prop where
  frm : Frm (fun x => x = m) w wr
  iter : IterAt (Value.int .i64) wr it m (ent ks') (ent tk)
  nd : ks'.Nodup
  ndt : tk.Nodup
  mem : ∀ k, k ∈ ks' ↔ k ∈ ks ∧ (k ∈ tk ∨ k * 512 < n)
  sub : ∀ k, k ∈ tk → k ∈ ks
theorem CutInv.kept {w wr wr' : World} {m it : Nat} {n : Int} {ks ks' tk tk' : List Int} {y : Int} (h : CutInv w wr m it n ks ks' tk) (hp : tk.Perm (y :: tk')) (hlt : y * 512 < n) (hf : Frm (fun x => x = m) w wr') (hi : IterAt (Value.int .i64) wr' it m (ent ks') (ent tk')) : CutInv w wr' m it n ks ks' tk' := by
  have hn : (y :: tk').Nodup := hp.nodup_iff.1 h.ndt
  refine ⟨hf, hi, h.nd, (List.nodup_cons.1 hn).2, fun k => ?_, fun k hk => h.sub k (hp.mem_iff.2 (List.mem_cons_of_mem _ hk))⟩
  rw [h.mem k, hp.mem_iff, List.mem_cons]
  constructor
  · rintro ⟨h1, (rfl | h2) | h2⟩
    · exact ⟨h1, .inr hlt⟩
    · exact ⟨h1, .inl h2⟩
    · exact ⟨h1, .inr h2⟩
  · rintro ⟨h1, h2 | h2⟩
    · exact ⟨h1, .inl (.inr h2)⟩
    · exact ⟨h1, .inr h2⟩
theorem CutInv.gone {w wr wr' : World} {m it : Nat} {n : Int} {ks ks' tk tk' : List Int} {y : Int} (h : CutInv w wr m it n ks ks' tk) (hp : tk.Perm (y :: tk')) (hlt : ¬ y * 512 < n) (hf : Frm (fun x => x = m) w wr') (hi : IterAt (Value.int .i64) wr' it m (delL (ent ks') y) (ent tk')) : CutInv w wr' m it n ks (ks'.erase y) tk' := by
  have hn : (y :: tk').Nodup := hp.nodup_iff.1 h.ndt
  have hn1 := (List.nodup_cons.1 hn).1
  rw [delL_ent] at hi
  refine ⟨hf, hi, h.nd.erase _, (List.nodup_cons.1 hn).2, fun k => ?_, fun k hk => h.sub k (hp.mem_iff.2 (List.mem_cons_of_mem _ hk))⟩
  rw [h.nd.mem_erase_iff, h.mem k, hp.mem_iff, List.mem_cons]
  constructor
  · rintro ⟨h0, h1, (rfl | h2) | h2⟩
    · exact absurd rfl h0
    · exact ⟨h1, .inl h2⟩
    · exact ⟨h1, .inr h2⟩
  · rintro ⟨h1, h2 | h2⟩
    · exact ⟨fun e => hn1 (e ▸ h2), h1, .inl (.inr h2)⟩
    · exact ⟨fun e => hlt (e ▸ h2), h1, .inr h2⟩
end Go.Proofs.YtpckkdjdjkjapaaGreatDoor.Dw

/- A file is cut: what the memory is then. -/
namespace Go.Proofs.YtpckkdjdjkjapaaGreatDoor.Da
open Go.RowKit Go.ChangeMaps Go.Proofs.YtpckkdjdjkjapaaGreatDoor.Mp Go.Proofs.YtpckkdjdjkjapaaGreatDoor.Dm
set_option linter.unusedVariables false
set_option linter.unusedSimpArgs false
set_option linter.unusedSectionVars false
section
variable {B : Nat} {w w3 : World} {b : Nat} {A : Adr} {lab : Nat → Option Lb} {D : Disk}
end
end Go.Proofs.YtpckkdjdjkjapaaGreatDoor.Da
