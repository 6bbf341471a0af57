/- A part of the proof of diskDown_holds: Fe, Dtp. No condition. -/
import Derived.Test.YtglhedahannjiaaGreatDoorC19

/- The fifteen errors, and the number of each (printed by wip/tools/gen_of.py). -/
namespace Go.Proofs.YtglhedahannjiaaGreatDoor.Dw
open Go.RowKit Go.ChangeMaps Go.Proofs.YtglhedahannjiaaGreatDoor.Mp Go.Proofs.YtglhedahannjiaaGreatDoor.Dm Go.Proofs.YtglhedahannjiaaGreatDoor.Da
set_option linter.unusedVariables false
set_option linter.unusedSimpArgs false
set_option linter.unusedSectionVars false
/-- The package's variable of each error. -/
def g15 : Nat → Nat
  | 1 => 1
  | 2 => 7
  | 3 => 8
  | 4 => 9
  | 5 => 10
  | 6 => 6
  | 7 => 4
  | 8 => 5
  | 9 => 0
  | 10 => 2
  | 11 => 11
  | 12 => 12
  | 13 => 13
  | 14 => 14
  | _ => 3
/-- The fifteen variables hold their errors, each another one. -/
structure Errs15 (B : Nat) (w : World) (eb : Nat → Addr) : Prop where
  var : ∀ c, 1 ≤ c → c ≤ 15 → w.cell? ⟨g15 c, 0, none⟩ = some (.iface 228 (.pointer (some (eb c))))
  blk : ∀ c, 1 ≤ c → c ≤ 15 → ∃ cs t, w.heap[(eb c).block]? = some (.cells cs t (0, 0))
  ebl : ∀ c, 1 ≤ c → c ≤ 15 → (eb c).block < B
  low : ∀ c, 1 ≤ c → c ≤ 15 → g15 c < B
  inj : ∀ a b, 1 ≤ a → a ≤ 15 → 1 ≤ b → b ≤ 15 → eb a = eb b → a = b
/-- The errors that the disk's calls answer. -/
def l7 : List Err := [1, 6, 7, 8, 9, 10, 15]
theorem Errs15.errs {B : Nat} {w : World} {eb : Nat → Addr} (h : Errs15 B w eb) : ErrsAt B w eb l7 := by
  have hr : ∀ c, c ∈ l7 → 1 ≤ c ∧ c ≤ 15 ∧ gOf c = g15 c := by
    intro c hc
    simp only [l7, List.mem_cons, List.not_mem_nil, or_false] at hc
    rcases hc with rfl | rfl | rfl | rfl | rfl | rfl | rfl <;> exact ⟨by decide, by decide, rfl⟩
  refine ⟨fun c hc => ?_, fun c hc => ?_, fun c hc => ?_, fun c hc => ?_, fun a b ha hb => ?_, fun c hc => ?_⟩
  · obtain ⟨h1, h2, h3⟩ := hr c hc
    rw [h3, errV_pos eb c (Nat.ne_of_gt h1)]; exact h.var c h1 h2
  · exact h.blk c (hr c hc).1 (hr c hc).2.1
  · exact h.ebl c (hr c hc).1 (hr c hc).2.1
  · rw [(hr c hc).2.2]; exact h.low c (hr c hc).1 (hr c hc).2.1
  · exact h.inj a b (hr a ha).1 (hr a ha).2.1 (hr b hb).1 (hr b hb).2.1
  · simp only [l7, List.mem_cons, List.not_mem_nil, or_false] at hc ⊢
    rcases hc with rfl | rfl | rfl | rfl | rfl | rfl <;> decide
theorem Errs15.frm {B : Nat} {w w' : World} {eb : Nat → Addr} {F : Nat → Prop} (h : Errs15 B w eb) (hf : Frm F w w') (hF : ∀ k, F k → B ≤ k) : Errs15 B w' eb := by
  refine ⟨fun c h1 h2 => ?_, fun c h1 h2 => ?_, h.ebl, h.low, h.inj⟩
  · have h3 := h.var c h1 h2
    have hlt := World.block_lt_of_cell? w _ h3
    rw [← h3]
    exact hf.cell hlt (fun hk => by have := hF _ hk; have := h.low c h1 h2; omega)
  · obtain ⟨cs, t, h3⟩ := h.blk c h1 h2
    have hlt : (eb c).block < w.heap.size := (Array.getElem?_eq_some_iff.1 h3).1
    exact ⟨cs, t, by rw [hf.block _ hlt (fun hk => by have := hF _ hk; have := h.ebl c h1 h2; omega)]; exact h3⟩
theorem Errs15.up {B B' : Nat} {w : World} {eb : Nat → Addr} (h : Errs15 B w eb) (hB : B ≤ B') : Errs15 B' w eb :=
  ⟨h.var, h.blk, fun c h1 h2 => Nat.lt_of_lt_of_le (h.ebl c h1 h2) hB, fun c h1 h2 => Nat.lt_of_lt_of_le (h.low c h1 h2) hB, h.inj⟩
theorem Errs15.eql {B : Nat} {w : World} {eb : Nat → Addr} (h : Errs15 B w eb) (a b : Nat) (h1 : 1 ≤ a) (h2 : a ≤ 15) (h3 : 1 ≤ b) (h4 : b ≤ 15) :
    (binOp .eql 28 (.iface 228 (.pointer (some (eb a)))) (.iface 228 (.pointer (some (eb b))))).run Tryz.prog w = .ok (.bool (decide (a = b))) w := by
  obtain ⟨i, hi, hcmp⟩ := Option.map_eq_some_iff.1 Go.Proofs.YtglhedahannjiaaGreatDoor.Ei.isComp
  obtain ⟨j, hj, hjs⟩ := Option.map_eq_some_iff.1 Go.Proofs.YtglhedahannjiaaGreatDoor.Ei.isSize
  by_cases e : a = b
  · subst e
    rw [decide_eq_true rfl]
    exact run_eql_iface_ptr_same (P := Tryz.prog) w (eb a) Tryz.underlying28 Tryz.underlying228 hi hcmp hj
  · rw [decide_eq_false e]
    obtain ⟨_, _, ha⟩ := h.blk a h1 h2
    obtain ⟨_, _, hb⟩ := h.blk b h3 h4
    exact run_eql_iface_ptr_other (P := Tryz.prog) w Tryz.underlying28 Tryz.underlying228 hi hcmp hj (by rw [hjs]; decide) (fun e2 => e (h.inj a b h1 h2 h3 h4 e2)) ha hb
set_option maxRecDepth 100000 in
theorem of_none (w : World) : Calls Tryz.prog 77 #[.nilIface] w fun e w' => e = .returned (.int .i64 0) ∧ w' = w := by
  go_enter Tryz.func77, Tryz.ntmps77
  go_wp2
  go_ret
  exact ⟨rfl, rfl⟩
set_option maxRecDepth 100000 in
theorem of_1 {B : Nat} {w : World} {eb : Nat → Addr} (h : Errs15 B w eb) : Calls Tryz.prog 77 #[.iface 228 (.pointer (some (eb 1)))] w fun e w' => e = .returned (.int .i64 1) ∧ w' = w := by
  have v1 : w.cell? ⟨1, 0, none⟩ = some (.iface 228 (.pointer (some (eb 1)))) := h.var 1 (by decide) (by decide)
  have e1 : (binOp .eql 28 (.iface 228 (.pointer (some (eb 1)))) (.iface 228 (.pointer (some (eb 1))))).run Tryz.prog w = .ok (.bool true) w := h.eql 1 1 (by decide) (by decide) (by decide) (by decide)
  clear h
  go_enter Tryz.func77, Tryz.ntmps77
  go_wp2
  go_ret
  exact ⟨rfl, rfl⟩
set_option maxRecDepth 100000 in
theorem of_2 {B : Nat} {w : World} {eb : Nat → Addr} (h : Errs15 B w eb) : Calls Tryz.prog 77 #[.iface 228 (.pointer (some (eb 2)))] w fun e w' => e = .returned (.int .i64 2) ∧ w' = w := by
  have v1 : w.cell? ⟨1, 0, none⟩ = some (.iface 228 (.pointer (some (eb 1)))) := h.var 1 (by decide) (by decide)
  have e1 : (binOp .eql 28 (.iface 228 (.pointer (some (eb 2)))) (.iface 228 (.pointer (some (eb 1))))).run Tryz.prog w = .ok (.bool false) w := h.eql 2 1 (by decide) (by decide) (by decide) (by decide)
  have v2 : w.cell? ⟨7, 0, none⟩ = some (.iface 228 (.pointer (some (eb 2)))) := h.var 2 (by decide) (by decide)
  have e2 : (binOp .eql 28 (.iface 228 (.pointer (some (eb 2)))) (.iface 228 (.pointer (some (eb 2))))).run Tryz.prog w = .ok (.bool true) w := h.eql 2 2 (by decide) (by decide) (by decide) (by decide)
  clear h
  go_enter Tryz.func77, Tryz.ntmps77
  go_wp2
  go_ret
  exact ⟨rfl, rfl⟩
set_option maxRecDepth 100000 in
theorem of_3 {B : Nat} {w : World} {eb : Nat → Addr} (h : Errs15 B w eb) : Calls Tryz.prog 77 #[.iface 228 (.pointer (some (eb 3)))] w fun e w' => e = .returned (.int .i64 3) ∧ w' = w := by
  have v1 : w.cell? ⟨1, 0, none⟩ = some (.iface 228 (.pointer (some (eb 1)))) := h.var 1 (by decide) (by decide)
  have e1 : (binOp .eql 28 (.iface 228 (.pointer (some (eb 3)))) (.iface 228 (.pointer (some (eb 1))))).run Tryz.prog w = .ok (.bool false) w := h.eql 3 1 (by decide) (by decide) (by decide) (by decide)
  have v2 : w.cell? ⟨7, 0, none⟩ = some (.iface 228 (.pointer (some (eb 2)))) := h.var 2 (by decide) (by decide)
  have e2 : (binOp .eql 28 (.iface 228 (.pointer (some (eb 3)))) (.iface 228 (.pointer (some (eb 2))))).run Tryz.prog w = .ok (.bool false) w := h.eql 3 2 (by decide) (by decide) (by decide) (by decide)
  have v3 : w.cell? ⟨8, 0, none⟩ = some (.iface 228 (.pointer (some (eb 3)))) := h.var 3 (by decide) (by decide)
  have e3 : (binOp .eql 28 (.iface 228 (.pointer (some (eb 3)))) (.iface 228 (.pointer (some (eb 3))))).run Tryz.prog w = .ok (.bool true) w := h.eql 3 3 (by decide) (by decide) (by decide) (by decide)
  clear h
  go_enter Tryz.func77, Tryz.ntmps77
  go_wp2
  go_ret
  exact ⟨rfl, rfl⟩
set_option maxRecDepth 100000 in
theorem of_4 {B : Nat} {w : World} {eb : Nat → Addr} (h : Errs15 B w eb) : Calls Tryz.prog 77 #[.iface 228 (.pointer (some (eb 4)))] w fun e w' => e = .returned (.int .i64 4) ∧ w' = w := by
  have v1 : w.cell? ⟨1, 0, none⟩ = some (.iface 228 (.pointer (some (eb 1)))) := h.var 1 (by decide) (by decide)
  have e1 : (binOp .eql 28 (.iface 228 (.pointer (some (eb 4)))) (.iface 228 (.pointer (some (eb 1))))).run Tryz.prog w = .ok (.bool false) w := h.eql 4 1 (by decide) (by decide) (by decide) (by decide)
  have v2 : w.cell? ⟨7, 0, none⟩ = some (.iface 228 (.pointer (some (eb 2)))) := h.var 2 (by decide) (by decide)
  have e2 : (binOp .eql 28 (.iface 228 (.pointer (some (eb 4)))) (.iface 228 (.pointer (some (eb 2))))).run Tryz.prog w = .ok (.bool false) w := h.eql 4 2 (by decide) (by decide) (by decide) (by decide)
  have v3 : w.cell? ⟨8, 0, none⟩ = some (.iface 228 (.pointer (some (eb 3)))) := h.var 3 (by decide) (by decide)
  have e3 : (binOp .eql 28 (.iface 228 (.pointer (some (eb 4)))) (.iface 228 (.pointer (some (eb 3))))).run Tryz.prog w = .ok (.bool false) w := h.eql 4 3 (by decide) (by decide) (by decide) (by decide)
  have v4 : w.cell? ⟨9, 0, none⟩ = some (.iface 228 (.pointer (some (eb 4)))) := h.var 4 (by decide) (by decide)
  have e4 : (binOp .eql 28 (.iface 228 (.pointer (some (eb 4)))) (.iface 228 (.pointer (some (eb 4))))).run Tryz.prog w = .ok (.bool true) w := h.eql 4 4 (by decide) (by decide) (by decide) (by decide)
  clear h
  go_enter Tryz.func77, Tryz.ntmps77
  go_wp2
  go_ret
  exact ⟨rfl, rfl⟩
set_option maxRecDepth 100000 in
theorem of_5 {B : Nat} {w : World} {eb : Nat → Addr} (h : Errs15 B w eb) : Calls Tryz.prog 77 #[.iface 228 (.pointer (some (eb 5)))] w fun e w' => e = .returned (.int .i64 5) ∧ w' = w := by
  have v1 : w.cell? ⟨1, 0, none⟩ = some (.iface 228 (.pointer (some (eb 1)))) := h.var 1 (by decide) (by decide)
  have e1 : (binOp .eql 28 (.iface 228 (.pointer (some (eb 5)))) (.iface 228 (.pointer (some (eb 1))))).run Tryz.prog w = .ok (.bool false) w := h.eql 5 1 (by decide) (by decide) (by decide) (by decide)
  have v2 : w.cell? ⟨7, 0, none⟩ = some (.iface 228 (.pointer (some (eb 2)))) := h.var 2 (by decide) (by decide)
  have e2 : (binOp .eql 28 (.iface 228 (.pointer (some (eb 5)))) (.iface 228 (.pointer (some (eb 2))))).run Tryz.prog w = .ok (.bool false) w := h.eql 5 2 (by decide) (by decide) (by decide) (by decide)
  have v3 : w.cell? ⟨8, 0, none⟩ = some (.iface 228 (.pointer (some (eb 3)))) := h.var 3 (by decide) (by decide)
  have e3 : (binOp .eql 28 (.iface 228 (.pointer (some (eb 5)))) (.iface 228 (.pointer (some (eb 3))))).run Tryz.prog w = .ok (.bool false) w := h.eql 5 3 (by decide) (by decide) (by decide) (by decide)
  have v4 : w.cell? ⟨9, 0, none⟩ = some (.iface 228 (.pointer (some (eb 4)))) := h.var 4 (by decide) (by decide)
  have e4 : (binOp .eql 28 (.iface 228 (.pointer (some (eb 5)))) (.iface 228 (.pointer (some (eb 4))))).run Tryz.prog w = .ok (.bool false) w := h.eql 5 4 (by decide) (by decide) (by decide) (by decide)
  have v5 : w.cell? ⟨10, 0, none⟩ = some (.iface 228 (.pointer (some (eb 5)))) := h.var 5 (by decide) (by decide)
  have e5 : (binOp .eql 28 (.iface 228 (.pointer (some (eb 5)))) (.iface 228 (.pointer (some (eb 5))))).run Tryz.prog w = .ok (.bool true) w := h.eql 5 5 (by decide) (by decide) (by decide) (by decide)
  clear h
  go_enter Tryz.func77, Tryz.ntmps77
  go_wp2
  go_ret
  exact ⟨rfl, rfl⟩
set_option maxRecDepth 100000 in
theorem of_6 {B : Nat} {w : World} {eb : Nat → Addr} (h : Errs15 B w eb) : Calls Tryz.prog 77 #[.iface 228 (.pointer (some (eb 6)))] w fun e w' => e = .returned (.int .i64 6) ∧ w' = w := by
  have v1 : w.cell? ⟨1, 0, none⟩ = some (.iface 228 (.pointer (some (eb 1)))) := h.var 1 (by decide) (by decide)
  have e1 : (binOp .eql 28 (.iface 228 (.pointer (some (eb 6)))) (.iface 228 (.pointer (some (eb 1))))).run Tryz.prog w = .ok (.bool false) w := h.eql 6 1 (by decide) (by decide) (by decide) (by decide)
  have v2 : w.cell? ⟨7, 0, none⟩ = some (.iface 228 (.pointer (some (eb 2)))) := h.var 2 (by decide) (by decide)
  have e2 : (binOp .eql 28 (.iface 228 (.pointer (some (eb 6)))) (.iface 228 (.pointer (some (eb 2))))).run Tryz.prog w = .ok (.bool false) w := h.eql 6 2 (by decide) (by decide) (by decide) (by decide)
  have v3 : w.cell? ⟨8, 0, none⟩ = some (.iface 228 (.pointer (some (eb 3)))) := h.var 3 (by decide) (by decide)
  have e3 : (binOp .eql 28 (.iface 228 (.pointer (some (eb 6)))) (.iface 228 (.pointer (some (eb 3))))).run Tryz.prog w = .ok (.bool false) w := h.eql 6 3 (by decide) (by decide) (by decide) (by decide)
  have v4 : w.cell? ⟨9, 0, none⟩ = some (.iface 228 (.pointer (some (eb 4)))) := h.var 4 (by decide) (by decide)
  have e4 : (binOp .eql 28 (.iface 228 (.pointer (some (eb 6)))) (.iface 228 (.pointer (some (eb 4))))).run Tryz.prog w = .ok (.bool false) w := h.eql 6 4 (by decide) (by decide) (by decide) (by decide)
  have v5 : w.cell? ⟨10, 0, none⟩ = some (.iface 228 (.pointer (some (eb 5)))) := h.var 5 (by decide) (by decide)
  have e5 : (binOp .eql 28 (.iface 228 (.pointer (some (eb 6)))) (.iface 228 (.pointer (some (eb 5))))).run Tryz.prog w = .ok (.bool false) w := h.eql 6 5 (by decide) (by decide) (by decide) (by decide)
  have v6 : w.cell? ⟨6, 0, none⟩ = some (.iface 228 (.pointer (some (eb 6)))) := h.var 6 (by decide) (by decide)
  have e6 : (binOp .eql 28 (.iface 228 (.pointer (some (eb 6)))) (.iface 228 (.pointer (some (eb 6))))).run Tryz.prog w = .ok (.bool true) w := h.eql 6 6 (by decide) (by decide) (by decide) (by decide)
  clear h
  go_enter Tryz.func77, Tryz.ntmps77
  go_wp2
  go_ret
  exact ⟨rfl, rfl⟩
set_option maxRecDepth 100000 in
theorem of_7 {B : Nat} {w : World} {eb : Nat → Addr} (h : Errs15 B w eb) : Calls Tryz.prog 77 #[.iface 228 (.pointer (some (eb 7)))] w fun e w' => e = .returned (.int .i64 7) ∧ w' = w := by
  have v1 : w.cell? ⟨1, 0, none⟩ = some (.iface 228 (.pointer (some (eb 1)))) := h.var 1 (by decide) (by decide)
  have e1 : (binOp .eql 28 (.iface 228 (.pointer (some (eb 7)))) (.iface 228 (.pointer (some (eb 1))))).run Tryz.prog w = .ok (.bool false) w := h.eql 7 1 (by decide) (by decide) (by decide) (by decide)
  have v2 : w.cell? ⟨7, 0, none⟩ = some (.iface 228 (.pointer (some (eb 2)))) := h.var 2 (by decide) (by decide)
  have e2 : (binOp .eql 28 (.iface 228 (.pointer (some (eb 7)))) (.iface 228 (.pointer (some (eb 2))))).run Tryz.prog w = .ok (.bool false) w := h.eql 7 2 (by decide) (by decide) (by decide) (by decide)
  have v3 : w.cell? ⟨8, 0, none⟩ = some (.iface 228 (.pointer (some (eb 3)))) := h.var 3 (by decide) (by decide)
  have e3 : (binOp .eql 28 (.iface 228 (.pointer (some (eb 7)))) (.iface 228 (.pointer (some (eb 3))))).run Tryz.prog w = .ok (.bool false) w := h.eql 7 3 (by decide) (by decide) (by decide) (by decide)
  have v4 : w.cell? ⟨9, 0, none⟩ = some (.iface 228 (.pointer (some (eb 4)))) := h.var 4 (by decide) (by decide)
  have e4 : (binOp .eql 28 (.iface 228 (.pointer (some (eb 7)))) (.iface 228 (.pointer (some (eb 4))))).run Tryz.prog w = .ok (.bool false) w := h.eql 7 4 (by decide) (by decide) (by decide) (by decide)
  have v5 : w.cell? ⟨10, 0, none⟩ = some (.iface 228 (.pointer (some (eb 5)))) := h.var 5 (by decide) (by decide)
  have e5 : (binOp .eql 28 (.iface 228 (.pointer (some (eb 7)))) (.iface 228 (.pointer (some (eb 5))))).run Tryz.prog w = .ok (.bool false) w := h.eql 7 5 (by decide) (by decide) (by decide) (by decide)
  have v6 : w.cell? ⟨6, 0, none⟩ = some (.iface 228 (.pointer (some (eb 6)))) := h.var 6 (by decide) (by decide)
  have e6 : (binOp .eql 28 (.iface 228 (.pointer (some (eb 7)))) (.iface 228 (.pointer (some (eb 6))))).run Tryz.prog w = .ok (.bool false) w := h.eql 7 6 (by decide) (by decide) (by decide) (by decide)
  have v7 : w.cell? ⟨4, 0, none⟩ = some (.iface 228 (.pointer (some (eb 7)))) := h.var 7 (by decide) (by decide)
  have e7 : (binOp .eql 28 (.iface 228 (.pointer (some (eb 7)))) (.iface 228 (.pointer (some (eb 7))))).run Tryz.prog w = .ok (.bool true) w := h.eql 7 7 (by decide) (by decide) (by decide) (by decide)
  clear h
  go_enter Tryz.func77, Tryz.ntmps77
  go_wp2
  go_ret
  exact ⟨rfl, rfl⟩
set_option maxRecDepth 100000 in
theorem of_8 {B : Nat} {w : World} {eb : Nat → Addr} (h : Errs15 B w eb) : Calls Tryz.prog 77 #[.iface 228 (.pointer (some (eb 8)))] w fun e w' => e = .returned (.int .i64 8) ∧ w' = w := by
  have v1 : w.cell? ⟨1, 0, none⟩ = some (.iface 228 (.pointer (some (eb 1)))) := h.var 1 (by decide) (by decide)
  have e1 : (binOp .eql 28 (.iface 228 (.pointer (some (eb 8)))) (.iface 228 (.pointer (some (eb 1))))).run Tryz.prog w = .ok (.bool false) w := h.eql 8 1 (by decide) (by decide) (by decide) (by decide)
  have v2 : w.cell? ⟨7, 0, none⟩ = some (.iface 228 (.pointer (some (eb 2)))) := h.var 2 (by decide) (by decide)
  have e2 : (binOp .eql 28 (.iface 228 (.pointer (some (eb 8)))) (.iface 228 (.pointer (some (eb 2))))).run Tryz.prog w = .ok (.bool false) w := h.eql 8 2 (by decide) (by decide) (by decide) (by decide)
  have v3 : w.cell? ⟨8, 0, none⟩ = some (.iface 228 (.pointer (some (eb 3)))) := h.var 3 (by decide) (by decide)
  have e3 : (binOp .eql 28 (.iface 228 (.pointer (some (eb 8)))) (.iface 228 (.pointer (some (eb 3))))).run Tryz.prog w = .ok (.bool false) w := h.eql 8 3 (by decide) (by decide) (by decide) (by decide)
  have v4 : w.cell? ⟨9, 0, none⟩ = some (.iface 228 (.pointer (some (eb 4)))) := h.var 4 (by decide) (by decide)
  have e4 : (binOp .eql 28 (.iface 228 (.pointer (some (eb 8)))) (.iface 228 (.pointer (some (eb 4))))).run Tryz.prog w = .ok (.bool false) w := h.eql 8 4 (by decide) (by decide) (by decide) (by decide)
  have v5 : w.cell? ⟨10, 0, none⟩ = some (.iface 228 (.pointer (some (eb 5)))) := h.var 5 (by decide) (by decide)
  have e5 : (binOp .eql 28 (.iface 228 (.pointer (some (eb 8)))) (.iface 228 (.pointer (some (eb 5))))).run Tryz.prog w = .ok (.bool false) w := h.eql 8 5 (by decide) (by decide) (by decide) (by decide)
  have v6 : w.cell? ⟨6, 0, none⟩ = some (.iface 228 (.pointer (some (eb 6)))) := h.var 6 (by decide) (by decide)
  have e6 : (binOp .eql 28 (.iface 228 (.pointer (some (eb 8)))) (.iface 228 (.pointer (some (eb 6))))).run Tryz.prog w = .ok (.bool false) w := h.eql 8 6 (by decide) (by decide) (by decide) (by decide)
  have v7 : w.cell? ⟨4, 0, none⟩ = some (.iface 228 (.pointer (some (eb 7)))) := h.var 7 (by decide) (by decide)
  have e7 : (binOp .eql 28 (.iface 228 (.pointer (some (eb 8)))) (.iface 228 (.pointer (some (eb 7))))).run Tryz.prog w = .ok (.bool false) w := h.eql 8 7 (by decide) (by decide) (by decide) (by decide)
  have v8 : w.cell? ⟨5, 0, none⟩ = some (.iface 228 (.pointer (some (eb 8)))) := h.var 8 (by decide) (by decide)
  have e8 : (binOp .eql 28 (.iface 228 (.pointer (some (eb 8)))) (.iface 228 (.pointer (some (eb 8))))).run Tryz.prog w = .ok (.bool true) w := h.eql 8 8 (by decide) (by decide) (by decide) (by decide)
  clear h
  go_enter Tryz.func77, Tryz.ntmps77
  go_wp2
  go_ret
  exact ⟨rfl, rfl⟩
set_option maxRecDepth 100000 in
theorem of_9 {B : Nat} {w : World} {eb : Nat → Addr} (h : Errs15 B w eb) : Calls Tryz.prog 77 #[.iface 228 (.pointer (some (eb 9)))] w fun e w' => e = .returned (.int .i64 9) ∧ w' = w := by
  have v1 : w.cell? ⟨1, 0, none⟩ = some (.iface 228 (.pointer (some (eb 1)))) := h.var 1 (by decide) (by decide)
  have e1 : (binOp .eql 28 (.iface 228 (.pointer (some (eb 9)))) (.iface 228 (.pointer (some (eb 1))))).run Tryz.prog w = .ok (.bool false) w := h.eql 9 1 (by decide) (by decide) (by decide) (by decide)
  have v2 : w.cell? ⟨7, 0, none⟩ = some (.iface 228 (.pointer (some (eb 2)))) := h.var 2 (by decide) (by decide)
  have e2 : (binOp .eql 28 (.iface 228 (.pointer (some (eb 9)))) (.iface 228 (.pointer (some (eb 2))))).run Tryz.prog w = .ok (.bool false) w := h.eql 9 2 (by decide) (by decide) (by decide) (by decide)
  have v3 : w.cell? ⟨8, 0, none⟩ = some (.iface 228 (.pointer (some (eb 3)))) := h.var 3 (by decide) (by decide)
  have e3 : (binOp .eql 28 (.iface 228 (.pointer (some (eb 9)))) (.iface 228 (.pointer (some (eb 3))))).run Tryz.prog w = .ok (.bool false) w := h.eql 9 3 (by decide) (by decide) (by decide) (by decide)
  have v4 : w.cell? ⟨9, 0, none⟩ = some (.iface 228 (.pointer (some (eb 4)))) := h.var 4 (by decide) (by decide)
  have e4 : (binOp .eql 28 (.iface 228 (.pointer (some (eb 9)))) (.iface 228 (.pointer (some (eb 4))))).run Tryz.prog w = .ok (.bool false) w := h.eql 9 4 (by decide) (by decide) (by decide) (by decide)
  have v5 : w.cell? ⟨10, 0, none⟩ = some (.iface 228 (.pointer (some (eb 5)))) := h.var 5 (by decide) (by decide)
  have e5 : (binOp .eql 28 (.iface 228 (.pointer (some (eb 9)))) (.iface 228 (.pointer (some (eb 5))))).run Tryz.prog w = .ok (.bool false) w := h.eql 9 5 (by decide) (by decide) (by decide) (by decide)
  have v6 : w.cell? ⟨6, 0, none⟩ = some (.iface 228 (.pointer (some (eb 6)))) := h.var 6 (by decide) (by decide)
  have e6 : (binOp .eql 28 (.iface 228 (.pointer (some (eb 9)))) (.iface 228 (.pointer (some (eb 6))))).run Tryz.prog w = .ok (.bool false) w := h.eql 9 6 (by decide) (by decide) (by decide) (by decide)
  have v7 : w.cell? ⟨4, 0, none⟩ = some (.iface 228 (.pointer (some (eb 7)))) := h.var 7 (by decide) (by decide)
  have e7 : (binOp .eql 28 (.iface 228 (.pointer (some (eb 9)))) (.iface 228 (.pointer (some (eb 7))))).run Tryz.prog w = .ok (.bool false) w := h.eql 9 7 (by decide) (by decide) (by decide) (by decide)
  have v8 : w.cell? ⟨5, 0, none⟩ = some (.iface 228 (.pointer (some (eb 8)))) := h.var 8 (by decide) (by decide)
  have e8 : (binOp .eql 28 (.iface 228 (.pointer (some (eb 9)))) (.iface 228 (.pointer (some (eb 8))))).run Tryz.prog w = .ok (.bool false) w := h.eql 9 8 (by decide) (by decide) (by decide) (by decide)
  have v9 : w.cell? ⟨0, 0, none⟩ = some (.iface 228 (.pointer (some (eb 9)))) := h.var 9 (by decide) (by decide)
  have e9 : (binOp .eql 28 (.iface 228 (.pointer (some (eb 9)))) (.iface 228 (.pointer (some (eb 9))))).run Tryz.prog w = .ok (.bool true) w := h.eql 9 9 (by decide) (by decide) (by decide) (by decide)
  clear h
  go_enter Tryz.func77, Tryz.ntmps77
  go_wp2
  go_ret
  exact ⟨rfl, rfl⟩
set_option maxRecDepth 100000 in
theorem of_10 {B : Nat} {w : World} {eb : Nat → Addr} (h : Errs15 B w eb) : Calls Tryz.prog 77 #[.iface 228 (.pointer (some (eb 10)))] w fun e w' => e = .returned (.int .i64 10) ∧ w' = w := by
  have v1 : w.cell? ⟨1, 0, none⟩ = some (.iface 228 (.pointer (some (eb 1)))) := h.var 1 (by decide) (by decide)
  have e1 : (binOp .eql 28 (.iface 228 (.pointer (some (eb 10)))) (.iface 228 (.pointer (some (eb 1))))).run Tryz.prog w = .ok (.bool false) w := h.eql 10 1 (by decide) (by decide) (by decide) (by decide)
  have v2 : w.cell? ⟨7, 0, none⟩ = some (.iface 228 (.pointer (some (eb 2)))) := h.var 2 (by decide) (by decide)
  have e2 : (binOp .eql 28 (.iface 228 (.pointer (some (eb 10)))) (.iface 228 (.pointer (some (eb 2))))).run Tryz.prog w = .ok (.bool false) w := h.eql 10 2 (by decide) (by decide) (by decide) (by decide)
  have v3 : w.cell? ⟨8, 0, none⟩ = some (.iface 228 (.pointer (some (eb 3)))) := h.var 3 (by decide) (by decide)
  have e3 : (binOp .eql 28 (.iface 228 (.pointer (some (eb 10)))) (.iface 228 (.pointer (some (eb 3))))).run Tryz.prog w = .ok (.bool false) w := h.eql 10 3 (by decide) (by decide) (by decide) (by decide)
  have v4 : w.cell? ⟨9, 0, none⟩ = some (.iface 228 (.pointer (some (eb 4)))) := h.var 4 (by decide) (by decide)
  have e4 : (binOp .eql 28 (.iface 228 (.pointer (some (eb 10)))) (.iface 228 (.pointer (some (eb 4))))).run Tryz.prog w = .ok (.bool false) w := h.eql 10 4 (by decide) (by decide) (by decide) (by decide)
  have v5 : w.cell? ⟨10, 0, none⟩ = some (.iface 228 (.pointer (some (eb 5)))) := h.var 5 (by decide) (by decide)
  have e5 : (binOp .eql 28 (.iface 228 (.pointer (some (eb 10)))) (.iface 228 (.pointer (some (eb 5))))).run Tryz.prog w = .ok (.bool false) w := h.eql 10 5 (by decide) (by decide) (by decide) (by decide)
  have v6 : w.cell? ⟨6, 0, none⟩ = some (.iface 228 (.pointer (some (eb 6)))) := h.var 6 (by decide) (by decide)
  have e6 : (binOp .eql 28 (.iface 228 (.pointer (some (eb 10)))) (.iface 228 (.pointer (some (eb 6))))).run Tryz.prog w = .ok (.bool false) w := h.eql 10 6 (by decide) (by decide) (by decide) (by decide)
  have v7 : w.cell? ⟨4, 0, none⟩ = some (.iface 228 (.pointer (some (eb 7)))) := h.var 7 (by decide) (by decide)
  have e7 : (binOp .eql 28 (.iface 228 (.pointer (some (eb 10)))) (.iface 228 (.pointer (some (eb 7))))).run Tryz.prog w = .ok (.bool false) w := h.eql 10 7 (by decide) (by decide) (by decide) (by decide)
  have v8 : w.cell? ⟨5, 0, none⟩ = some (.iface 228 (.pointer (some (eb 8)))) := h.var 8 (by decide) (by decide)
  have e8 : (binOp .eql 28 (.iface 228 (.pointer (some (eb 10)))) (.iface 228 (.pointer (some (eb 8))))).run Tryz.prog w = .ok (.bool false) w := h.eql 10 8 (by decide) (by decide) (by decide) (by decide)
  have v9 : w.cell? ⟨0, 0, none⟩ = some (.iface 228 (.pointer (some (eb 9)))) := h.var 9 (by decide) (by decide)
  have e9 : (binOp .eql 28 (.iface 228 (.pointer (some (eb 10)))) (.iface 228 (.pointer (some (eb 9))))).run Tryz.prog w = .ok (.bool false) w := h.eql 10 9 (by decide) (by decide) (by decide) (by decide)
  have v10 : w.cell? ⟨2, 0, none⟩ = some (.iface 228 (.pointer (some (eb 10)))) := h.var 10 (by decide) (by decide)
  have e10 : (binOp .eql 28 (.iface 228 (.pointer (some (eb 10)))) (.iface 228 (.pointer (some (eb 10))))).run Tryz.prog w = .ok (.bool true) w := h.eql 10 10 (by decide) (by decide) (by decide) (by decide)
  clear h
  go_enter Tryz.func77, Tryz.ntmps77
  go_wp2
  go_ret
  exact ⟨rfl, rfl⟩
set_option maxRecDepth 100000 in
theorem of_11 {B : Nat} {w : World} {eb : Nat → Addr} (h : Errs15 B w eb) : Calls Tryz.prog 77 #[.iface 228 (.pointer (some (eb 11)))] w fun e w' => e = .returned (.int .i64 11) ∧ w' = w := by
  have v1 : w.cell? ⟨1, 0, none⟩ = some (.iface 228 (.pointer (some (eb 1)))) := h.var 1 (by decide) (by decide)
  have e1 : (binOp .eql 28 (.iface 228 (.pointer (some (eb 11)))) (.iface 228 (.pointer (some (eb 1))))).run Tryz.prog w = .ok (.bool false) w := h.eql 11 1 (by decide) (by decide) (by decide) (by decide)
  have v2 : w.cell? ⟨7, 0, none⟩ = some (.iface 228 (.pointer (some (eb 2)))) := h.var 2 (by decide) (by decide)
  have e2 : (binOp .eql 28 (.iface 228 (.pointer (some (eb 11)))) (.iface 228 (.pointer (some (eb 2))))).run Tryz.prog w = .ok (.bool false) w := h.eql 11 2 (by decide) (by decide) (by decide) (by decide)
  have v3 : w.cell? ⟨8, 0, none⟩ = some (.iface 228 (.pointer (some (eb 3)))) := h.var 3 (by decide) (by decide)
  have e3 : (binOp .eql 28 (.iface 228 (.pointer (some (eb 11)))) (.iface 228 (.pointer (some (eb 3))))).run Tryz.prog w = .ok (.bool false) w := h.eql 11 3 (by decide) (by decide) (by decide) (by decide)
  have v4 : w.cell? ⟨9, 0, none⟩ = some (.iface 228 (.pointer (some (eb 4)))) := h.var 4 (by decide) (by decide)
  have e4 : (binOp .eql 28 (.iface 228 (.pointer (some (eb 11)))) (.iface 228 (.pointer (some (eb 4))))).run Tryz.prog w = .ok (.bool false) w := h.eql 11 4 (by decide) (by decide) (by decide) (by decide)
  have v5 : w.cell? ⟨10, 0, none⟩ = some (.iface 228 (.pointer (some (eb 5)))) := h.var 5 (by decide) (by decide)
  have e5 : (binOp .eql 28 (.iface 228 (.pointer (some (eb 11)))) (.iface 228 (.pointer (some (eb 5))))).run Tryz.prog w = .ok (.bool false) w := h.eql 11 5 (by decide) (by decide) (by decide) (by decide)
  have v6 : w.cell? ⟨6, 0, none⟩ = some (.iface 228 (.pointer (some (eb 6)))) := h.var 6 (by decide) (by decide)
  have e6 : (binOp .eql 28 (.iface 228 (.pointer (some (eb 11)))) (.iface 228 (.pointer (some (eb 6))))).run Tryz.prog w = .ok (.bool false) w := h.eql 11 6 (by decide) (by decide) (by decide) (by decide)
  have v7 : w.cell? ⟨4, 0, none⟩ = some (.iface 228 (.pointer (some (eb 7)))) := h.var 7 (by decide) (by decide)
  have e7 : (binOp .eql 28 (.iface 228 (.pointer (some (eb 11)))) (.iface 228 (.pointer (some (eb 7))))).run Tryz.prog w = .ok (.bool false) w := h.eql 11 7 (by decide) (by decide) (by decide) (by decide)
  have v8 : w.cell? ⟨5, 0, none⟩ = some (.iface 228 (.pointer (some (eb 8)))) := h.var 8 (by decide) (by decide)
  have e8 : (binOp .eql 28 (.iface 228 (.pointer (some (eb 11)))) (.iface 228 (.pointer (some (eb 8))))).run Tryz.prog w = .ok (.bool false) w := h.eql 11 8 (by decide) (by decide) (by decide) (by decide)
  have v9 : w.cell? ⟨0, 0, none⟩ = some (.iface 228 (.pointer (some (eb 9)))) := h.var 9 (by decide) (by decide)
  have e9 : (binOp .eql 28 (.iface 228 (.pointer (some (eb 11)))) (.iface 228 (.pointer (some (eb 9))))).run Tryz.prog w = .ok (.bool false) w := h.eql 11 9 (by decide) (by decide) (by decide) (by decide)
  have v10 : w.cell? ⟨2, 0, none⟩ = some (.iface 228 (.pointer (some (eb 10)))) := h.var 10 (by decide) (by decide)
  have e10 : (binOp .eql 28 (.iface 228 (.pointer (some (eb 11)))) (.iface 228 (.pointer (some (eb 10))))).run Tryz.prog w = .ok (.bool false) w := h.eql 11 10 (by decide) (by decide) (by decide) (by decide)
  have v11 : w.cell? ⟨11, 0, none⟩ = some (.iface 228 (.pointer (some (eb 11)))) := h.var 11 (by decide) (by decide)
  have e11 : (binOp .eql 28 (.iface 228 (.pointer (some (eb 11)))) (.iface 228 (.pointer (some (eb 11))))).run Tryz.prog w = .ok (.bool true) w := h.eql 11 11 (by decide) (by decide) (by decide) (by decide)
  clear h
  go_enter Tryz.func77, Tryz.ntmps77
  go_wp2
  go_ret
  exact ⟨rfl, rfl⟩
set_option maxRecDepth 100000 in
theorem of_12 {B : Nat} {w : World} {eb : Nat → Addr} (h : Errs15 B w eb) : Calls Tryz.prog 77 #[.iface 228 (.pointer (some (eb 12)))] w fun e w' => e = .returned (.int .i64 12) ∧ w' = w := by
  have v1 : w.cell? ⟨1, 0, none⟩ = some (.iface 228 (.pointer (some (eb 1)))) := h.var 1 (by decide) (by decide)
  have e1 : (binOp .eql 28 (.iface 228 (.pointer (some (eb 12)))) (.iface 228 (.pointer (some (eb 1))))).run Tryz.prog w = .ok (.bool false) w := h.eql 12 1 (by decide) (by decide) (by decide) (by decide)
  have v2 : w.cell? ⟨7, 0, none⟩ = some (.iface 228 (.pointer (some (eb 2)))) := h.var 2 (by decide) (by decide)
  have e2 : (binOp .eql 28 (.iface 228 (.pointer (some (eb 12)))) (.iface 228 (.pointer (some (eb 2))))).run Tryz.prog w = .ok (.bool false) w := h.eql 12 2 (by decide) (by decide) (by decide) (by decide)
  have v3 : w.cell? ⟨8, 0, none⟩ = some (.iface 228 (.pointer (some (eb 3)))) := h.var 3 (by decide) (by decide)
  have e3 : (binOp .eql 28 (.iface 228 (.pointer (some (eb 12)))) (.iface 228 (.pointer (some (eb 3))))).run Tryz.prog w = .ok (.bool false) w := h.eql 12 3 (by decide) (by decide) (by decide) (by decide)
  have v4 : w.cell? ⟨9, 0, none⟩ = some (.iface 228 (.pointer (some (eb 4)))) := h.var 4 (by decide) (by decide)
  have e4 : (binOp .eql 28 (.iface 228 (.pointer (some (eb 12)))) (.iface 228 (.pointer (some (eb 4))))).run Tryz.prog w = .ok (.bool false) w := h.eql 12 4 (by decide) (by decide) (by decide) (by decide)
  have v5 : w.cell? ⟨10, 0, none⟩ = some (.iface 228 (.pointer (some (eb 5)))) := h.var 5 (by decide) (by decide)
  have e5 : (binOp .eql 28 (.iface 228 (.pointer (some (eb 12)))) (.iface 228 (.pointer (some (eb 5))))).run Tryz.prog w = .ok (.bool false) w := h.eql 12 5 (by decide) (by decide) (by decide) (by decide)
  have v6 : w.cell? ⟨6, 0, none⟩ = some (.iface 228 (.pointer (some (eb 6)))) := h.var 6 (by decide) (by decide)
  have e6 : (binOp .eql 28 (.iface 228 (.pointer (some (eb 12)))) (.iface 228 (.pointer (some (eb 6))))).run Tryz.prog w = .ok (.bool false) w := h.eql 12 6 (by decide) (by decide) (by decide) (by decide)
  have v7 : w.cell? ⟨4, 0, none⟩ = some (.iface 228 (.pointer (some (eb 7)))) := h.var 7 (by decide) (by decide)
  have e7 : (binOp .eql 28 (.iface 228 (.pointer (some (eb 12)))) (.iface 228 (.pointer (some (eb 7))))).run Tryz.prog w = .ok (.bool false) w := h.eql 12 7 (by decide) (by decide) (by decide) (by decide)
  have v8 : w.cell? ⟨5, 0, none⟩ = some (.iface 228 (.pointer (some (eb 8)))) := h.var 8 (by decide) (by decide)
  have e8 : (binOp .eql 28 (.iface 228 (.pointer (some (eb 12)))) (.iface 228 (.pointer (some (eb 8))))).run Tryz.prog w = .ok (.bool false) w := h.eql 12 8 (by decide) (by decide) (by decide) (by decide)
  have v9 : w.cell? ⟨0, 0, none⟩ = some (.iface 228 (.pointer (some (eb 9)))) := h.var 9 (by decide) (by decide)
  have e9 : (binOp .eql 28 (.iface 228 (.pointer (some (eb 12)))) (.iface 228 (.pointer (some (eb 9))))).run Tryz.prog w = .ok (.bool false) w := h.eql 12 9 (by decide) (by decide) (by decide) (by decide)
  have v10 : w.cell? ⟨2, 0, none⟩ = some (.iface 228 (.pointer (some (eb 10)))) := h.var 10 (by decide) (by decide)
  have e10 : (binOp .eql 28 (.iface 228 (.pointer (some (eb 12)))) (.iface 228 (.pointer (some (eb 10))))).run Tryz.prog w = .ok (.bool false) w := h.eql 12 10 (by decide) (by decide) (by decide) (by decide)
  have v11 : w.cell? ⟨11, 0, none⟩ = some (.iface 228 (.pointer (some (eb 11)))) := h.var 11 (by decide) (by decide)
  have e11 : (binOp .eql 28 (.iface 228 (.pointer (some (eb 12)))) (.iface 228 (.pointer (some (eb 11))))).run Tryz.prog w = .ok (.bool false) w := h.eql 12 11 (by decide) (by decide) (by decide) (by decide)
  have v12 : w.cell? ⟨12, 0, none⟩ = some (.iface 228 (.pointer (some (eb 12)))) := h.var 12 (by decide) (by decide)
  have e12 : (binOp .eql 28 (.iface 228 (.pointer (some (eb 12)))) (.iface 228 (.pointer (some (eb 12))))).run Tryz.prog w = .ok (.bool true) w := h.eql 12 12 (by decide) (by decide) (by decide) (by decide)
  clear h
  go_enter Tryz.func77, Tryz.ntmps77
  go_wp2
  go_ret
  exact ⟨rfl, rfl⟩
set_option maxRecDepth 100000 in
theorem of_13 {B : Nat} {w : World} {eb : Nat → Addr} (h : Errs15 B w eb) : Calls Tryz.prog 77 #[.iface 228 (.pointer (some (eb 13)))] w fun e w' => e = .returned (.int .i64 13) ∧ w' = w := by
  have v1 : w.cell? ⟨1, 0, none⟩ = some (.iface 228 (.pointer (some (eb 1)))) := h.var 1 (by decide) (by decide)
  have e1 : (binOp .eql 28 (.iface 228 (.pointer (some (eb 13)))) (.iface 228 (.pointer (some (eb 1))))).run Tryz.prog w = .ok (.bool false) w := h.eql 13 1 (by decide) (by decide) (by decide) (by decide)
  have v2 : w.cell? ⟨7, 0, none⟩ = some (.iface 228 (.pointer (some (eb 2)))) := h.var 2 (by decide) (by decide)
  have e2 : (binOp .eql 28 (.iface 228 (.pointer (some (eb 13)))) (.iface 228 (.pointer (some (eb 2))))).run Tryz.prog w = .ok (.bool false) w := h.eql 13 2 (by decide) (by decide) (by decide) (by decide)
  have v3 : w.cell? ⟨8, 0, none⟩ = some (.iface 228 (.pointer (some (eb 3)))) := h.var 3 (by decide) (by decide)
  have e3 : (binOp .eql 28 (.iface 228 (.pointer (some (eb 13)))) (.iface 228 (.pointer (some (eb 3))))).run Tryz.prog w = .ok (.bool false) w := h.eql 13 3 (by decide) (by decide) (by decide) (by decide)
  have v4 : w.cell? ⟨9, 0, none⟩ = some (.iface 228 (.pointer (some (eb 4)))) := h.var 4 (by decide) (by decide)
  have e4 : (binOp .eql 28 (.iface 228 (.pointer (some (eb 13)))) (.iface 228 (.pointer (some (eb 4))))).run Tryz.prog w = .ok (.bool false) w := h.eql 13 4 (by decide) (by decide) (by decide) (by decide)
  have v5 : w.cell? ⟨10, 0, none⟩ = some (.iface 228 (.pointer (some (eb 5)))) := h.var 5 (by decide) (by decide)
  have e5 : (binOp .eql 28 (.iface 228 (.pointer (some (eb 13)))) (.iface 228 (.pointer (some (eb 5))))).run Tryz.prog w = .ok (.bool false) w := h.eql 13 5 (by decide) (by decide) (by decide) (by decide)
  have v6 : w.cell? ⟨6, 0, none⟩ = some (.iface 228 (.pointer (some (eb 6)))) := h.var 6 (by decide) (by decide)
  have e6 : (binOp .eql 28 (.iface 228 (.pointer (some (eb 13)))) (.iface 228 (.pointer (some (eb 6))))).run Tryz.prog w = .ok (.bool false) w := h.eql 13 6 (by decide) (by decide) (by decide) (by decide)
  have v7 : w.cell? ⟨4, 0, none⟩ = some (.iface 228 (.pointer (some (eb 7)))) := h.var 7 (by decide) (by decide)
  have e7 : (binOp .eql 28 (.iface 228 (.pointer (some (eb 13)))) (.iface 228 (.pointer (some (eb 7))))).run Tryz.prog w = .ok (.bool false) w := h.eql 13 7 (by decide) (by decide) (by decide) (by decide)
  have v8 : w.cell? ⟨5, 0, none⟩ = some (.iface 228 (.pointer (some (eb 8)))) := h.var 8 (by decide) (by decide)
  have e8 : (binOp .eql 28 (.iface 228 (.pointer (some (eb 13)))) (.iface 228 (.pointer (some (eb 8))))).run Tryz.prog w = .ok (.bool false) w := h.eql 13 8 (by decide) (by decide) (by decide) (by decide)
  have v9 : w.cell? ⟨0, 0, none⟩ = some (.iface 228 (.pointer (some (eb 9)))) := h.var 9 (by decide) (by decide)
  have e9 : (binOp .eql 28 (.iface 228 (.pointer (some (eb 13)))) (.iface 228 (.pointer (some (eb 9))))).run Tryz.prog w = .ok (.bool false) w := h.eql 13 9 (by decide) (by decide) (by decide) (by decide)
  have v10 : w.cell? ⟨2, 0, none⟩ = some (.iface 228 (.pointer (some (eb 10)))) := h.var 10 (by decide) (by decide)
  have e10 : (binOp .eql 28 (.iface 228 (.pointer (some (eb 13)))) (.iface 228 (.pointer (some (eb 10))))).run Tryz.prog w = .ok (.bool false) w := h.eql 13 10 (by decide) (by decide) (by decide) (by decide)
  have v11 : w.cell? ⟨11, 0, none⟩ = some (.iface 228 (.pointer (some (eb 11)))) := h.var 11 (by decide) (by decide)
  have e11 : (binOp .eql 28 (.iface 228 (.pointer (some (eb 13)))) (.iface 228 (.pointer (some (eb 11))))).run Tryz.prog w = .ok (.bool false) w := h.eql 13 11 (by decide) (by decide) (by decide) (by decide)
  have v12 : w.cell? ⟨12, 0, none⟩ = some (.iface 228 (.pointer (some (eb 12)))) := h.var 12 (by decide) (by decide)
  have e12 : (binOp .eql 28 (.iface 228 (.pointer (some (eb 13)))) (.iface 228 (.pointer (some (eb 12))))).run Tryz.prog w = .ok (.bool false) w := h.eql 13 12 (by decide) (by decide) (by decide) (by decide)
  have v13 : w.cell? ⟨13, 0, none⟩ = some (.iface 228 (.pointer (some (eb 13)))) := h.var 13 (by decide) (by decide)
  have e13 : (binOp .eql 28 (.iface 228 (.pointer (some (eb 13)))) (.iface 228 (.pointer (some (eb 13))))).run Tryz.prog w = .ok (.bool true) w := h.eql 13 13 (by decide) (by decide) (by decide) (by decide)
  clear h
  go_enter Tryz.func77, Tryz.ntmps77
  go_wp2
  go_ret
  exact ⟨rfl, rfl⟩
set_option maxRecDepth 100000 in
theorem of_14 {B : Nat} {w : World} {eb : Nat → Addr} (h : Errs15 B w eb) : Calls Tryz.prog 77 #[.iface 228 (.pointer (some (eb 14)))] w fun e w' => e = .returned (.int .i64 14) ∧ w' = w := by
  have v1 : w.cell? ⟨1, 0, none⟩ = some (.iface 228 (.pointer (some (eb 1)))) := h.var 1 (by decide) (by decide)
  have e1 : (binOp .eql 28 (.iface 228 (.pointer (some (eb 14)))) (.iface 228 (.pointer (some (eb 1))))).run Tryz.prog w = .ok (.bool false) w := h.eql 14 1 (by decide) (by decide) (by decide) (by decide)
  have v2 : w.cell? ⟨7, 0, none⟩ = some (.iface 228 (.pointer (some (eb 2)))) := h.var 2 (by decide) (by decide)
  have e2 : (binOp .eql 28 (.iface 228 (.pointer (some (eb 14)))) (.iface 228 (.pointer (some (eb 2))))).run Tryz.prog w = .ok (.bool false) w := h.eql 14 2 (by decide) (by decide) (by decide) (by decide)
  have v3 : w.cell? ⟨8, 0, none⟩ = some (.iface 228 (.pointer (some (eb 3)))) := h.var 3 (by decide) (by decide)
  have e3 : (binOp .eql 28 (.iface 228 (.pointer (some (eb 14)))) (.iface 228 (.pointer (some (eb 3))))).run Tryz.prog w = .ok (.bool false) w := h.eql 14 3 (by decide) (by decide) (by decide) (by decide)
  have v4 : w.cell? ⟨9, 0, none⟩ = some (.iface 228 (.pointer (some (eb 4)))) := h.var 4 (by decide) (by decide)
  have e4 : (binOp .eql 28 (.iface 228 (.pointer (some (eb 14)))) (.iface 228 (.pointer (some (eb 4))))).run Tryz.prog w = .ok (.bool false) w := h.eql 14 4 (by decide) (by decide) (by decide) (by decide)
  have v5 : w.cell? ⟨10, 0, none⟩ = some (.iface 228 (.pointer (some (eb 5)))) := h.var 5 (by decide) (by decide)
  have e5 : (binOp .eql 28 (.iface 228 (.pointer (some (eb 14)))) (.iface 228 (.pointer (some (eb 5))))).run Tryz.prog w = .ok (.bool false) w := h.eql 14 5 (by decide) (by decide) (by decide) (by decide)
  have v6 : w.cell? ⟨6, 0, none⟩ = some (.iface 228 (.pointer (some (eb 6)))) := h.var 6 (by decide) (by decide)
  have e6 : (binOp .eql 28 (.iface 228 (.pointer (some (eb 14)))) (.iface 228 (.pointer (some (eb 6))))).run Tryz.prog w = .ok (.bool false) w := h.eql 14 6 (by decide) (by decide) (by decide) (by decide)
  have v7 : w.cell? ⟨4, 0, none⟩ = some (.iface 228 (.pointer (some (eb 7)))) := h.var 7 (by decide) (by decide)
  have e7 : (binOp .eql 28 (.iface 228 (.pointer (some (eb 14)))) (.iface 228 (.pointer (some (eb 7))))).run Tryz.prog w = .ok (.bool false) w := h.eql 14 7 (by decide) (by decide) (by decide) (by decide)
  have v8 : w.cell? ⟨5, 0, none⟩ = some (.iface 228 (.pointer (some (eb 8)))) := h.var 8 (by decide) (by decide)
  have e8 : (binOp .eql 28 (.iface 228 (.pointer (some (eb 14)))) (.iface 228 (.pointer (some (eb 8))))).run Tryz.prog w = .ok (.bool false) w := h.eql 14 8 (by decide) (by decide) (by decide) (by decide)
  have v9 : w.cell? ⟨0, 0, none⟩ = some (.iface 228 (.pointer (some (eb 9)))) := h.var 9 (by decide) (by decide)
  have e9 : (binOp .eql 28 (.iface 228 (.pointer (some (eb 14)))) (.iface 228 (.pointer (some (eb 9))))).run Tryz.prog w = .ok (.bool false) w := h.eql 14 9 (by decide) (by decide) (by decide) (by decide)
  have v10 : w.cell? ⟨2, 0, none⟩ = some (.iface 228 (.pointer (some (eb 10)))) := h.var 10 (by decide) (by decide)
  have e10 : (binOp .eql 28 (.iface 228 (.pointer (some (eb 14)))) (.iface 228 (.pointer (some (eb 10))))).run Tryz.prog w = .ok (.bool false) w := h.eql 14 10 (by decide) (by decide) (by decide) (by decide)
  have v11 : w.cell? ⟨11, 0, none⟩ = some (.iface 228 (.pointer (some (eb 11)))) := h.var 11 (by decide) (by decide)
  have e11 : (binOp .eql 28 (.iface 228 (.pointer (some (eb 14)))) (.iface 228 (.pointer (some (eb 11))))).run Tryz.prog w = .ok (.bool false) w := h.eql 14 11 (by decide) (by decide) (by decide) (by decide)
  have v12 : w.cell? ⟨12, 0, none⟩ = some (.iface 228 (.pointer (some (eb 12)))) := h.var 12 (by decide) (by decide)
  have e12 : (binOp .eql 28 (.iface 228 (.pointer (some (eb 14)))) (.iface 228 (.pointer (some (eb 12))))).run Tryz.prog w = .ok (.bool false) w := h.eql 14 12 (by decide) (by decide) (by decide) (by decide)
  have v13 : w.cell? ⟨13, 0, none⟩ = some (.iface 228 (.pointer (some (eb 13)))) := h.var 13 (by decide) (by decide)
  have e13 : (binOp .eql 28 (.iface 228 (.pointer (some (eb 14)))) (.iface 228 (.pointer (some (eb 13))))).run Tryz.prog w = .ok (.bool false) w := h.eql 14 13 (by decide) (by decide) (by decide) (by decide)
  have v14 : w.cell? ⟨14, 0, none⟩ = some (.iface 228 (.pointer (some (eb 14)))) := h.var 14 (by decide) (by decide)
  have e14 : (binOp .eql 28 (.iface 228 (.pointer (some (eb 14)))) (.iface 228 (.pointer (some (eb 14))))).run Tryz.prog w = .ok (.bool true) w := h.eql 14 14 (by decide) (by decide) (by decide) (by decide)
  clear h
  go_enter Tryz.func77, Tryz.ntmps77
  go_wp2
  go_ret
  exact ⟨rfl, rfl⟩
set_option maxRecDepth 100000 in
theorem of_15 {B : Nat} {w : World} {eb : Nat → Addr} (h : Errs15 B w eb) : Calls Tryz.prog 77 #[.iface 228 (.pointer (some (eb 15)))] w fun e w' => e = .returned (.int .i64 15) ∧ w' = w := by
  have v1 : w.cell? ⟨1, 0, none⟩ = some (.iface 228 (.pointer (some (eb 1)))) := h.var 1 (by decide) (by decide)
  have e1 : (binOp .eql 28 (.iface 228 (.pointer (some (eb 15)))) (.iface 228 (.pointer (some (eb 1))))).run Tryz.prog w = .ok (.bool false) w := h.eql 15 1 (by decide) (by decide) (by decide) (by decide)
  have v2 : w.cell? ⟨7, 0, none⟩ = some (.iface 228 (.pointer (some (eb 2)))) := h.var 2 (by decide) (by decide)
  have e2 : (binOp .eql 28 (.iface 228 (.pointer (some (eb 15)))) (.iface 228 (.pointer (some (eb 2))))).run Tryz.prog w = .ok (.bool false) w := h.eql 15 2 (by decide) (by decide) (by decide) (by decide)
  have v3 : w.cell? ⟨8, 0, none⟩ = some (.iface 228 (.pointer (some (eb 3)))) := h.var 3 (by decide) (by decide)
  have e3 : (binOp .eql 28 (.iface 228 (.pointer (some (eb 15)))) (.iface 228 (.pointer (some (eb 3))))).run Tryz.prog w = .ok (.bool false) w := h.eql 15 3 (by decide) (by decide) (by decide) (by decide)
  have v4 : w.cell? ⟨9, 0, none⟩ = some (.iface 228 (.pointer (some (eb 4)))) := h.var 4 (by decide) (by decide)
  have e4 : (binOp .eql 28 (.iface 228 (.pointer (some (eb 15)))) (.iface 228 (.pointer (some (eb 4))))).run Tryz.prog w = .ok (.bool false) w := h.eql 15 4 (by decide) (by decide) (by decide) (by decide)
  have v5 : w.cell? ⟨10, 0, none⟩ = some (.iface 228 (.pointer (some (eb 5)))) := h.var 5 (by decide) (by decide)
  have e5 : (binOp .eql 28 (.iface 228 (.pointer (some (eb 15)))) (.iface 228 (.pointer (some (eb 5))))).run Tryz.prog w = .ok (.bool false) w := h.eql 15 5 (by decide) (by decide) (by decide) (by decide)
  have v6 : w.cell? ⟨6, 0, none⟩ = some (.iface 228 (.pointer (some (eb 6)))) := h.var 6 (by decide) (by decide)
  have e6 : (binOp .eql 28 (.iface 228 (.pointer (some (eb 15)))) (.iface 228 (.pointer (some (eb 6))))).run Tryz.prog w = .ok (.bool false) w := h.eql 15 6 (by decide) (by decide) (by decide) (by decide)
  have v7 : w.cell? ⟨4, 0, none⟩ = some (.iface 228 (.pointer (some (eb 7)))) := h.var 7 (by decide) (by decide)
  have e7 : (binOp .eql 28 (.iface 228 (.pointer (some (eb 15)))) (.iface 228 (.pointer (some (eb 7))))).run Tryz.prog w = .ok (.bool false) w := h.eql 15 7 (by decide) (by decide) (by decide) (by decide)
  have v8 : w.cell? ⟨5, 0, none⟩ = some (.iface 228 (.pointer (some (eb 8)))) := h.var 8 (by decide) (by decide)
  have e8 : (binOp .eql 28 (.iface 228 (.pointer (some (eb 15)))) (.iface 228 (.pointer (some (eb 8))))).run Tryz.prog w = .ok (.bool false) w := h.eql 15 8 (by decide) (by decide) (by decide) (by decide)
  have v9 : w.cell? ⟨0, 0, none⟩ = some (.iface 228 (.pointer (some (eb 9)))) := h.var 9 (by decide) (by decide)
  have e9 : (binOp .eql 28 (.iface 228 (.pointer (some (eb 15)))) (.iface 228 (.pointer (some (eb 9))))).run Tryz.prog w = .ok (.bool false) w := h.eql 15 9 (by decide) (by decide) (by decide) (by decide)
  have v10 : w.cell? ⟨2, 0, none⟩ = some (.iface 228 (.pointer (some (eb 10)))) := h.var 10 (by decide) (by decide)
  have e10 : (binOp .eql 28 (.iface 228 (.pointer (some (eb 15)))) (.iface 228 (.pointer (some (eb 10))))).run Tryz.prog w = .ok (.bool false) w := h.eql 15 10 (by decide) (by decide) (by decide) (by decide)
  have v11 : w.cell? ⟨11, 0, none⟩ = some (.iface 228 (.pointer (some (eb 11)))) := h.var 11 (by decide) (by decide)
  have e11 : (binOp .eql 28 (.iface 228 (.pointer (some (eb 15)))) (.iface 228 (.pointer (some (eb 11))))).run Tryz.prog w = .ok (.bool false) w := h.eql 15 11 (by decide) (by decide) (by decide) (by decide)
  have v12 : w.cell? ⟨12, 0, none⟩ = some (.iface 228 (.pointer (some (eb 12)))) := h.var 12 (by decide) (by decide)
  have e12 : (binOp .eql 28 (.iface 228 (.pointer (some (eb 15)))) (.iface 228 (.pointer (some (eb 12))))).run Tryz.prog w = .ok (.bool false) w := h.eql 15 12 (by decide) (by decide) (by decide) (by decide)
  have v13 : w.cell? ⟨13, 0, none⟩ = some (.iface 228 (.pointer (some (eb 13)))) := h.var 13 (by decide) (by decide)
  have e13 : (binOp .eql 28 (.iface 228 (.pointer (some (eb 15)))) (.iface 228 (.pointer (some (eb 13))))).run Tryz.prog w = .ok (.bool false) w := h.eql 15 13 (by decide) (by decide) (by decide) (by decide)
  have v14 : w.cell? ⟨14, 0, none⟩ = some (.iface 228 (.pointer (some (eb 14)))) := h.var 14 (by decide) (by decide)
  have e14 : (binOp .eql 28 (.iface 228 (.pointer (some (eb 15)))) (.iface 228 (.pointer (some (eb 14))))).run Tryz.prog w = .ok (.bool false) w := h.eql 15 14 (by decide) (by decide) (by decide) (by decide)
  have v15 : w.cell? ⟨3, 0, none⟩ = some (.iface 228 (.pointer (some (eb 15)))) := h.var 15 (by decide) (by decide)
  have e15 : (binOp .eql 28 (.iface 228 (.pointer (some (eb 15)))) (.iface 228 (.pointer (some (eb 15))))).run Tryz.prog w = .ok (.bool true) w := h.eql 15 15 (by decide) (by decide) (by decide) (by decide)
  clear h
  go_enter Tryz.func77, Tryz.ntmps77
  go_wp2
  go_ret
  exact ⟨rfl, rfl⟩
/-- The number of an error. -/
theorem of_calls {B : Nat} {w : World} {eb : Nat → Addr} (h : Errs15 B w eb) (c : Nat) (hc : c ≤ 15) : Calls Tryz.prog 77 #[errV eb c] w fun e w' => e = .returned (.int .i64 (c : Nat)) ∧ w' = w := by
  rcases Nat.eq_zero_or_pos c with h0 | h0
  · subst h0; exact of_none w
  · rw [errV_pos eb c (Nat.ne_of_gt h0)]
    have hc2 : c = 1 ∨ c = 2 ∨ c = 3 ∨ c = 4 ∨ c = 5 ∨ c = 6 ∨ c = 7 ∨ c = 8 ∨ c = 9 ∨ c = 10 ∨ c = 11 ∨ c = 12 ∨ c = 13 ∨ c = 14 ∨ c = 15 := by omega
    rcases hc2 with rfl | rfl | rfl | rfl | rfl | rfl | rfl | rfl | rfl | rfl | rfl | rfl | rfl | rfl | rfl
    · exact of_1 h
    · exact of_2 h
    · exact of_3 h
    · exact of_4 h
    · exact of_5 h
    · exact of_6 h
    · exact of_7 h
    · exact of_8 h
    · exact of_9 h
    · exact of_10 h
    · exact of_11 h
    · exact of_12 h
    · exact of_13 h
    · exact of_14 h
    · exact of_15 h
end Go.Proofs.YtglhedahannjiaaGreatDoor.Dw

/- Walks: Truncate's plan. -/
namespace Go.Proofs.YtglhedahannjiaaGreatDoor.Dw
open Go.RowKit Go.ChangeMaps Go.Proofs.YtglhedahannjiaaGreatDoor.Mp Go.Proofs.YtglhedahannjiaaGreatDoor.Dm Go.Proofs.YtglhedahannjiaaGreatDoor.Da
set_option linter.unusedVariables false
set_option linter.unusedSimpArgs false
set_option linter.unusedSectionVars false
theorem _root_.Go.Proofs.YtglhedahannjiaaGreatDoor.Da.RowAt.shape {w : World} {lab : Nat → Option Lb} {p : Lb} {e : TypeId} {size : Nat} {v : Value} {n : Nat} {xs : List Value} (h : RowAt w lab p e size v n xs) : ∃ q c, v = .slice q n c ∧ n ≤ maxLen := by
  rcases h.cells with ⟨rfl, rfl⟩ | ⟨g, cap, rfl, h1, h2, _⟩
  · exact ⟨none, 0, rfl, by decide⟩
  · exact ⟨_, _, rfl, Nat.le_trans h1 h2⟩
set_option maxHeartbeats 8000000 in
set_option maxRecDepth 100000 in
theorem truncate1 {B : Nat} {W : World} {b : Nat} {A : Adr} {lab : Nat → Option Lb} {D : Disk} {eb : Nat → Addr} {L : List Err} (h : DiskAt B W b A lab D) (he : ErrsAt B W eb L) (hw : WF D) (n : Name) (k : Int) (cd cn ck : Nat)
    (hk : -9223372036854775808 ≤ k ∧ k ≤ 9223372036854775807)
    (h1 : W.cell? ⟨cd, 0, none⟩ = some (dptr b)) (h2 : W.cell? ⟨cn, 0, none⟩ = some (.string n)) (h3 : W.cell? ⟨ck, 0, none⟩ = some (.int .i64 k)) :
    Calls Tryz.prog 113 #[.pointer (some ⟨cd, 0, none⟩), .pointer (some ⟨cn, 0, none⟩), .pointer (some ⟨ck, 0, none⟩)] W fun e W' =>
      e = .returned (.agg #[errV eb (D.refuseTrunc n k), .func (.func 114) #[] #[.pointer (some ⟨cd, 0, none⟩), .pointer (some ⟨cn, 0, none⟩), .pointer (some ⟨ck, 0, none⟩)], .bool false, .nilFunc]) ∧ Frm (fun _ => False) W W' := by
  have c0 : W.cell? ⟨b, 0, none⟩ = some (.map (some A.nm)) := main_cell h.blk rfl
  have ca := he.arg
  obtain ⟨n10, n11, n12⟩ := ne2 (World.block_lt_of_cell? W _ h1)
  obtain ⟨n20, n21, n22⟩ := ne2 (World.block_lt_of_cell? W _ h2)
  obtain ⟨n30, n31, n32⟩ := ne2 (World.block_lt_of_cell? W _ h3)
  obtain ⟨n40, n41, n42⟩ := ne2 (World.block_lt_of_cell? W _ ca)
  obtain ⟨n50, n51, n52⟩ := ne2 (World.block_lt_of_cell? W _ c0)
  have key : ∀ o, Calls Tryz.prog 53 #[dptr b, .string n] (W.alloc o) fun e w' => e = .returned (errV eb (D.gone n)) ∧ w' = W.alloc o :=
    fun o => gone_calls (h.alloc o) (he.alloc o) hw.nowN n
  unfold dptr at h1 key
  have KEY := Lib.hid key
  clear key
  obtain ⟨l', hp, hm⟩ := h.names
  have hl := look_names hp hw.nowN A n
  cases hf : find D.now n with
  | none =>
    have hg : D.gone n = eGone := by simp [Disk.gone, hf]
    have hr : D.refuseTrunc n k = eGone := by unfold Disk.refuseTrunc; rw [hg, if_pos (by decide)]
    rw [hr, errV_pos eb eGone (by decide)]
    rw [hg, errV_pos eb eGone (by decide)] at KEY
    clear hr hl hp hm hg hf
    go_enter Tryz.func113, Tryz.ntmps113
    go_wp2_with fail
    refine (KEY.out _).mono ?_
    rintro e w' ⟨rfl, rfl⟩
    go_wp2_with fail
    go_quiet (fail)
    go_wp2
    exact bodyPost_ret (v := .agg #[.iface 228 (.pointer (some (eb 8))), .func (.func 114) #[] #[.pointer (some ⟨cd, 0, none⟩), .pointer (some ⟨cn, 0, none⟩), .pointer (some ⟨ck, 0, none⟩)], .bool false, .nilFunc]) (by simp [results, Tryz.results113, go_sem]) rfl ⟨rfl, (by repeat (first | (with_reducible assumption) | (with_reducible exact Frm.refl _ _) | (with_reducible apply Frm.drewN) | (with_reducible apply Frm.drew) | (with_reducible apply Frm.alloc) | (with_reducible refine Frm.setCell ?_ _ _ (fun h => absurd h (by first | (simp; done) | (simp; omega))))))⟩
  | some i =>
    have hg : D.gone n = 0 := by simp [Disk.gone, hf]
    obtain ⟨f, hff⟩ := WF.file hw hf
    have FF := h.files i f hff
    obtain ⟨sp, sc, hsd, hsl⟩ := FF.seen.shape
    have hlen : D.seenLen n = f.seen.length := by simp [Disk.seenLen, hf, hff]
    have r1 : W.cell? ⟨(A.fa i).fb, 1, none⟩ = some (.slice sp f.seen.length sc) := by rw [← hsd]; exact cell_of FF.blk rfl
    obtain ⟨n60, n61, n62⟩ := ne2 (World.block_lt_of_cell? W _ r1)
    rw [hg, errV_zero] at KEY
    have lk : ∀ (o1 o2 : Obj) nq, (Instr.lookup 85 (.map (some A.nm)) (.string n) false).run Tryz.prog (((W.alloc o1).alloc o2).drewN nq) = .ok (.pointer (some ⟨(A.fa i).fb, 0, none⟩)) (((W.alloc o1).alloc o2).drewN nq) := by
      intro o1 o2 nq
      have hlt := hm.lt
      have hm' : MapAt Value.string (((W.alloc o1).alloc o2).drewN nq) A.nm (l'.map fun p => (p.1, fptr A p.2)) := hm.of_block (by
        show ((W.alloc o1).alloc o2).heap[A.nm]? = _
        rw [blk_alloc_lt (by simp only [World.size_alloc]; omega), blk_alloc_lt hlt])
      have := hm'.lookup kS Tryz.underlying85 (zP _) n false
      rw [this, hl, hf]; rfl
    have mx : maxLen = 9223372036854775807 := by decide
    have hlx : (f.seen.length : Int) ≤ 9223372036854775807 := by omega
    clear hl hp hm hf hff FF hsd mx
    by_cases hlow : k < 0
    · have hr : D.refuseTrunc n k = eArg := by unfold Disk.refuseTrunc; rw [hg, if_neg (by decide), if_pos (.inl hlow)]
      rw [hr, errV_pos eb eArg (by decide)]
      clear hr hg hlen
      go_enter Tryz.func113, Tryz.ntmps113
      go_wp2_with fail
      refine (KEY.out _).mono ?_
      rintro e w' ⟨rfl, rfl⟩
      go_wp2_with fail
      go_quiet (fail)
      go_wp2
      exact bodyPost_ret (v := .agg #[.iface 228 (.pointer (some (eb 1))), .func (.func 114) #[] #[.pointer (some ⟨cd, 0, none⟩), .pointer (some ⟨cn, 0, none⟩), .pointer (some ⟨ck, 0, none⟩)], .bool false, .nilFunc]) (by simp [results, Tryz.results113, go_sem]) rfl ⟨rfl, (by repeat (first | (with_reducible assumption) | (with_reducible exact Frm.refl _ _) | (with_reducible apply Frm.drewN) | (with_reducible apply Frm.drew) | (with_reducible apply Frm.alloc) | (with_reducible refine Frm.setCell ?_ _ _ (fun h => absurd h (by first | (simp; done) | (simp; omega))))))⟩
    · have h0 : 0 ≤ k := by omega
      have hlow' : decide (k < 0) = false := decide_eq_false hlow
      have tm : k.tmod 512 = k % 512 := Int.tmod_eq_emod_of_nonneg h0
      by_cases hrem : k % 512 = 0
      · by_cases hgt : (f.seen.length : Int) < k
        · have hr : D.refuseTrunc n k = eArg := by unfold Disk.refuseTrunc; rw [hg, if_neg (by decide), if_pos (.inr (.inr (by rw [hlen]; exact hgt)))]
          rw [hr, errV_pos eb eArg (by decide)]
          clear hr hg hlen
          go_enter Tryz.func113, Tryz.ntmps113
          go_wp2_with fail
          refine (KEY.out _).mono ?_
          rintro e w' ⟨rfl, rfl⟩
          go_wp2_with fail
          go_quiet (fail)
          go_wp2
          exact bodyPost_ret (v := .agg #[.iface 228 (.pointer (some (eb 1))), .func (.func 114) #[] #[.pointer (some ⟨cd, 0, none⟩), .pointer (some ⟨cn, 0, none⟩), .pointer (some ⟨ck, 0, none⟩)], .bool false, .nilFunc]) (by simp [results, Tryz.results113, go_sem]) rfl ⟨rfl, (by repeat (first | (with_reducible assumption) | (with_reducible exact Frm.refl _ _) | (with_reducible apply Frm.drewN) | (with_reducible apply Frm.drew) | (with_reducible apply Frm.alloc) | (with_reducible refine Frm.setCell ?_ _ _ (fun h => absurd h (by first | (simp; done) | (simp; omega))))))⟩
        · have hr : D.refuseTrunc n k = 0 := by
            unfold Disk.refuseTrunc; rw [hg, if_neg (by decide), if_neg]
            rintro (h | h | h)
            · omega
            · exact h hrem
            · rw [hlen] at h; omega
          rw [hr, errV_zero]
          clear hr hg hlen
          go_enter Tryz.func113, Tryz.ntmps113
          go_wp2_with fail
          refine (KEY.out _).mono ?_
          rintro e w' ⟨rfl, rfl⟩
          go_wp2_with fail
          go_quiet (fail)
          go_wp2
          exact bodyPost_ret (v := .agg #[.nilIface, .func (.func 114) #[] #[.pointer (some ⟨cd, 0, none⟩), .pointer (some ⟨cn, 0, none⟩), .pointer (some ⟨ck, 0, none⟩)], .bool false, .nilFunc]) (by simp [results, Tryz.results113, go_sem]) rfl ⟨rfl, (by repeat (first | (with_reducible assumption) | (with_reducible exact Frm.refl _ _) | (with_reducible apply Frm.drewN) | (with_reducible apply Frm.drew) | (with_reducible apply Frm.alloc) | (with_reducible refine Frm.setCell ?_ _ _ (fun h => absurd h (by first | (simp; done) | (simp; omega))))))⟩
      · have hr : D.refuseTrunc n k = eArg := by unfold Disk.refuseTrunc; rw [hg, if_neg (by decide), if_pos (.inr (.inl hrem))]
        rw [hr, errV_pos eb eArg (by decide)]
        clear hr hg hlen
        go_enter Tryz.func113, Tryz.ntmps113
        go_wp2_with fail
        refine (KEY.out _).mono ?_
        rintro e w' ⟨rfl, rfl⟩
        go_wp2_with fail
        go_quiet (fail)
        go_wp2
        exact bodyPost_ret (v := .agg #[.iface 228 (.pointer (some (eb 1))), .func (.func 114) #[] #[.pointer (some ⟨cd, 0, none⟩), .pointer (some ⟨cn, 0, none⟩), .pointer (some ⟨ck, 0, none⟩)], .bool false, .nilFunc]) (by simp [results, Tryz.results113, go_sem]) rfl ⟨rfl, (by repeat (first | (with_reducible assumption) | (with_reducible exact Frm.refl _ _) | (with_reducible apply Frm.drewN) | (with_reducible apply Frm.drew) | (with_reducible apply Frm.alloc) | (with_reducible refine Frm.setCell ?_ _ _ (fun h => absurd h (by first | (simp; done) | (simp; omega))))))⟩
theorem trunc_bound {D : Disk} {n : Name} {k : Int} (hl : ∀ f, f ∈ D.files → f.seen.length ≤ 4398046511104) (h : D.refuseTrunc n k = 0) : 0 ≤ k ∧ k ≤ 4611686018427387904 := by
  unfold Disk.refuseTrunc at h
  split at h
  · rename_i h1; exact absurd h h1
  · split at h
    · cases h
    · rename_i h1 h2
      have h3 : D.seenLen n ≤ 4398046511104 := by
        unfold Disk.seenLen
        split
        · rename_i i hi
          cases hf : D.files[i]? with
          | none => simp
          | some f => simp; exact hl f (List.mem_of_getElem? hf)
        · exact Nat.zero_le _
      refine ⟨by omega, by omega⟩
end Go.Proofs.YtglhedahannjiaaGreatDoor.Dw
