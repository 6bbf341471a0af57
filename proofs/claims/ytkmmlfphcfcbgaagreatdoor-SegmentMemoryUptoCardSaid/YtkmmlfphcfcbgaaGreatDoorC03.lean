/- A part of the proof of segmentMemoryUpto_holds: Dw1. No condition. -/
import Derived.Test.YtkmmlfphcfcbgaaGreatDoorC02

/- Walks: the disk's small functions. -/
namespace Go.Proofs.YtkmmlfphcfcbgaaGreatDoor.Dw
open Go.RowKit Go.ChangeMaps Go.Proofs.YtkmmlfphcfcbgaaGreatDoor.Mp Go.Proofs.YtkmmlfphcfcbgaaGreatDoor.Dm Go.Proofs.YtkmmlfphcfcbgaaGreatDoor.Da
set_option linter.unusedVariables false
set_option linter.unusedSimpArgs false
set_option linter.unusedSectionVars false
theorem main_cell {w : World} {b : Nat} {A : Adr} {D : Disk} {i : Nat} {v : Value} (h : w.heap[b]? = some (.cells (mainCells A D) 102 (0, 0))) (hv : (mainCells A D)[i]? = some v) : w.cell? ⟨b, i, none⟩ = some v := cell_of h hv
theorem kS : KeyK Tryz.prog 9 Value.string := keyK_str Tryz.underlying9
theorem kI : KeyK Tryz.prog 3 (Value.int .i64) := keyK_int Tryz.underlying3
theorem zP (w : World) : (zeroValue 132).run Tryz.prog w = .ok (.pointer none) w := by kernel_rfl
set_option maxRecDepth 100000 in
theorem goodName_calls (n : Name) (w : World) (hn : n.size ≤ 9223372036854775807) :
    Calls Tryz.prog 74 #[.string n] w fun e w' => e = .returned (.bool (good n)) ∧ w' = w := by
  by_cases h1 : (n.size : Int) < 1
  · have hg : good n = false := by simp [good]; omega
    rw [hg]
    go_enter Tryz.func74, Tryz.ntmps74
    go_wp2
    go_ret
    exact ⟨rfl, rfl⟩
  · have hg : good n = decide ((n.size : Int) ≤ 64) := by
      rw [Bool.eq_iff_iff]; simp [good]; omega
    rw [hg]
    go_enter Tryz.func74, Tryz.ntmps74
    go_wp2
    go_ret
    exact ⟨rfl, rfl⟩
theorem look_names {l l' : List (Name × Nat)} (hp : l'.Perm l) (hn : (l.map (·.1)).Nodup) (A : Adr) (n : Name) :
    mlook (l'.map fun p => (p.1, fptr A p.2)) n = (find l n).map (fptr A) := by
  have hn' : (l'.map (·.1)).Nodup := (hp.map (·.1)).nodup_iff.2 hn
  have key : ∀ l' : List (Name × Nat), mlook (l'.map fun p => (p.1, fptr A p.2)) n = (find l' n).map (fptr A) := by
    intro l'
    induction l' with
    | nil => rfl
    | cons p l' ih =>
      simp only [mlook, find, List.map_cons, List.find?_cons] at ih ⊢
      by_cases h : p.1 = n
      · simp [h]
      · simp only [h, decide_false]; exact ih
  rw [key]
  congr 1
  have mem : ∀ (l : List (Name × Nat)), (l.map (·.1)).Nodup → ∀ i, find l n = some i ↔ (n, i) ∈ l := by
    intro l hl i
    induction l with
    | nil => simp [find]
    | cons p l ih =>
      simp only [List.map_cons, List.nodup_cons] at hl
      have ih := ih hl.2
      simp only [find, List.find?_cons] at ih ⊢
      by_cases h : p.1 = n
      · simp only [h, decide_true, Option.map_some, Option.some.injEq, List.mem_cons]
        constructor
        · rintro rfl; left; rw [← h]
        · rintro (h2 | h2)
          · rw [← h2]
          · exact absurd (List.mem_map_of_mem (f := (·.1)) h2) (by rw [h] at hl; exact hl.1)
      · simp only [h, decide_false, ih, List.mem_cons]
        constructor
        · exact .inr
        · rintro (h2 | h2)
          · exact absurd (by rw [← h2]) h
          · exact h2
  cases hf : find l' n with
  | none =>
    cases hf2 : find l n with
    | none => rfl
    | some i => have := (mem l' hn' i).2 ((hp.mem_iff).2 ((mem l hn i).1 hf2)); rw [hf] at this; cases this
  | some i => exact ((mem l hn i).2 ((hp.mem_iff).1 ((mem l' hn' i).1 hf))).symm
set_option maxRecDepth 100000 in
theorem gone_calls {B : Nat} {w : World} {b : Nat} {A : Adr} {lab : Nat → Option Lb} {D : Disk} {eb : Nat → Addr} {L : List Err} (h : DiskAt B w b A lab D) (he : ErrsAt B w eb L) (hn : (D.now.map (·.1)).Nodup) (n : Name) :
    Calls Tryz.prog 98 #[dptr b, .string n] w fun e w' => e = .returned (errV eb (D.gone n)) ∧ w' = w := by
  have c0 : w.cell? ⟨b, 0, none⟩ = some (.map (some A.nm)) := main_cell h.blk rfl
  have cg := he.gone
  obtain ⟨l', hp, hm⟩ := h.names
  have hl := look_names hp hn A n
  unfold dptr
  cases hf : find D.now n with
  | none =>
    rw [hf] at hl
    have e1 : (mlook (l'.map fun p => (p.1, fptr A p.2)) n).getD (.pointer none) = .pointer none := by rw [hl]; rfl
    have hg : D.gone n = eGone := by simp [Disk.gone, hf]
    rw [hg]
    clear hl hf hp hg
    have E1 := Lib.hid e1
    clear e1
    go_enter Tryz.func98, Tryz.ntmps98
    go_wp2_with (first | (at_lookup; refine wpl_lookup _ rfl _ _ _ rfl kS Tryz.underlying99 (zP _) n rfl rfl hm ?_; rw [if_neg (by simp), E1.out]))
    go_ret
    exact ⟨rfl, rfl⟩
  | some i =>
    rw [hf] at hl
    have e1 : (mlook (l'.map fun p => (p.1, fptr A p.2)) n).getD (.pointer none) = fptr A i := by rw [hl]; rfl
    have hg : D.gone n = 0 := by simp [Disk.gone, hf]
    rw [hg]
    clear hl hf hp hg
    have E1 := Lib.hid e1
    clear e1
    go_enter Tryz.func98, Tryz.ntmps98
    go_wp2_with (first | (at_lookup; refine wpl_lookup _ rfl _ _ _ rfl kS Tryz.underlying99 (zP _) n rfl rfl hm ?_; rw [if_neg (by simp), E1.out]; unfold fptr))
    go_ret
    exact ⟨rfl, rfl⟩
/-- What 'armed' answers. -/
def whatV (eb : Nat → Addr) : What → Value
  | .cut => .tuple #[.int .i64 0, errV eb eDown]
  | .fails n => .tuple #[.int .i64 n, errV eb eIo]
  | .goes => .tuple #[.int .i64 0, .nilIface]
theorem failRow (l : List (Int × Int)) (k : Nat) (hk : k < l.length) : (l.flatMap failCells)[k * 2]? = some (.int .i64 (l[k]).1) ∧ (l.flatMap failCells)[k * 2 + 1]? = some (.int .i64 (l[k]).2) := by
  induction l generalizing k with
  | nil => simp at hk
  | cons p l ih =>
    cases k with
    | zero => simp [failCells]
    | succ k =>
      have := ih k (by simpa using hk)
      simp only [List.flatMap_cons, failCells, List.cons_append, List.nil_append, List.getElem_cons_succ]
      rw [show (k + 1) * 2 = k * 2 + 1 + 1 by omega]
      simpa using this
set_option maxRecDepth 100000 in
theorem armed_calls {B : Nat} {w : World} {b : Nat} {A : Adr} {lab : Nat → Option Lb} {D : Disk} {eb : Nat → Addr} {L : List Err} (h : DiskAt B w b A lab D) (he : ErrsAt B w eb L) :
    Calls Tryz.prog 126 #[dptr b] w fun e w' => e = .returned (whatV eb D.armed) ∧ Frm (fun _ => False) w w' := by
  have c5 : w.cell? ⟨b, 5, none⟩ = some (.int .i64 D.since) := main_cell h.blk rfl
  have c6 : w.cell? ⟨b, 6, none⟩ = some A.fv := main_cell h.blk rfl
  have c7 : w.cell? ⟨b, 7, none⟩ = some (.int .i64 D.cut) := main_cell h.blk rfl
  have cd := he.down
  unfold dptr
  by_cases hcut : (D.since : Int) = D.cut
  · have ha : D.armed = .cut := by simp [Disk.armed, hcut]
    rw [ha]
    have hb : ((D.since : Int) == D.cut) = true := by simpa using hcut
    clear hcut ha
    go_enter Tryz.func126, Tryz.ntmps126
    go_wp2
    go_quiet (fail)
    go_wp2
    go_quiet (fail)
    go_wp2
    go_ret2
    exact ⟨rfl, (by repeat (first | (with_reducible assumption) | (with_reducible exact Frm.refl _ _) | (with_reducible apply Frm.drewN) | (with_reducible apply Frm.drew) | (with_reducible apply Frm.alloc) | (with_reducible refine Frm.setCell ?_ _ _ (fun h => absurd h (by first | (simp; done) | (simp; omega))))))⟩
  · have hb : ((D.since : Int) == D.cut) = false := by simpa using hcut
    have hlt := blk_lt h.blk
    rcases h.fails.cells with ⟨hv, hn⟩ | ⟨g, cap, hv, hn, hcap, hg, hglt, hcells⟩
    · have hnil : D.fails = [] := List.eq_nil_of_length_eq_zero hn
      have ha : D.armed = .goes := by simp [Disk.armed, hcut, hnil]
      rw [ha]
      rw [hv] at c6
      clear hcut ha hv hn hnil
      go_enter Tryz.func126, Tryz.ntmps126
      go_wp2
      go_quiet (fail)
      go_wp2
      refine wp_loop_rounds 1 ?_
      rw [rounds_succ]
      go_wp2
      go_ret2
      exact ⟨rfl, (by repeat (first | (with_reducible assumption) | (with_reducible exact Frm.refl _ _) | (with_reducible apply Frm.drewN) | (with_reducible apply Frm.drew) | (with_reducible apply Frm.alloc) | (with_reducible refine Frm.setCell ?_ _ _ (fun h => absurd h (by first | (simp; done) | (simp; omega))))))⟩
    · rw [hv] at c6
      have hmx : maxLen = 9223372036854775807 := by decide
      have hN : D.fails.length ≤ 9223372036854775807 := by omega
      clear hv hmx
      have HC := Lib.hid hcut
      clear hcut
      go_enter Tryz.func126, Tryz.ntmps126
      go_wp2
      go_quiet (fail)
      go_wp2
      go_loopw [21] (fun v wr => ∃ k : Nat, k ≤ D.fails.length ∧ v = .int .i64 k ∧ (∀ j, (hj : j < D.fails.length) → j < k → (D.fails[j]).1 ≠ (D.since : Int)) ∧ Frm (fun _ => False) w wr) (fun v _ => D.fails.length - (intOf v).toNat)
      case atStart => exact ⟨0, Nat.zero_le _, rfl, fun j _ hj => absurd hj (Nat.not_lt_zero _), (Frm.refl _ _).drewN _⟩
      case round =>
        obtain ⟨k, hk, rfl, hno, hfr⟩ := hrel
        have c5' : wr.cell? ⟨b, 5, none⟩ = some (.int .i64 D.since) := (hfr.cell hlt id).trans c5
        have ci : wr.cell? ⟨11, 0, none⟩ = some (.iface 311 (.pointer (some (eb 6)))) := (he.frm hfr (fun _ h => h.elim)).io
        by_cases hkl : k < D.fails.length
        · obtain ⟨r1, r2⟩ := failRow D.fails k hkl
          have k1 : wr.cell? ⟨g, k * 2, none⟩ = some (.int .i64 (D.fails[k]).1) := (hfr.cell hglt id).trans ((hcells _ (by omega)).trans r1)
          have k2 : wr.cell? ⟨g, k * 2 + 1, none⟩ = some (.int .i64 (D.fails[k]).2) := (hfr.cell hglt id).trans ((hcells _ (by omega)).trans r2)
          have HNo := Lib.hid hno
          clear hno r1 r2 c5 c6 c7 hcells
          have n1 := World.new_ne wr ⟨b, 5, none⟩ c5'
          have n2 := World.new_ne wr ⟨11, 0, none⟩ ci
          by_cases hAt : (D.fails[k]).1 = (D.since : Int)
          · have hAb : ((D.fails[k]).1 == (D.since : Int)) = true := by simpa using hAt
            have HAt := Lib.hid hAt
            clear hAt
            generalize hp1 : (D.fails[k]).1 = p1 at *
            generalize hp2 : (D.fails[k]).2 = p2 at *
            have HP := Lib.hid (And.intro hp1 hp2)
            clear hp1 hp2
            have q1 : (wr.alloc (.cells #[.int .i64 p1, .int .i64 p2] 159)).cell? ⟨b, 5, none⟩ = some (.int .i64 D.since) := cell_alloc c5'
            have q2 : (wr.alloc (.cells #[.int .i64 p1, .int .i64 p2] 159)).cell? ⟨11, 0, none⟩ = some (.iface 311 (.pointer (some (eb 6)))) := cell_alloc ci
            go_wp2
            go_quiet (fail)
            go_wp2
            go_quiet (fail)
            go_wp2
            go_ret2
            have ha : D.armed = .fails p2 := by
              have hf : D.fails.find? (fun p => decide (p.1 = (D.since : Int))) = some D.fails[k] := by
                rw [List.find?_eq_some_iff_getElem]
                refine ⟨by rw [HP.out.1]; simpa using HAt.out, k, hkl, rfl, fun j hj => ?_⟩
                have := HNo.out j (by omega) hj
                simpa using this
              simp only [Disk.armed, if_neg HC.out, hf, HP.out.2]
            rw [ha]
            exact ⟨rfl, (by repeat (first | (with_reducible assumption) | (with_reducible exact Frm.refl _ _) | (with_reducible apply Frm.drewN) | (with_reducible apply Frm.drew) | (with_reducible apply Frm.alloc) | (with_reducible refine Frm.setCell ?_ _ _ (fun h => absurd h (by first | (simp; done) | (simp; omega))))))⟩
          · have hAb : ((D.fails[k]).1 == (D.since : Int)) = false := by simpa using hAt
            have HNo' : Hid (∀ j, (hj : j < D.fails.length) → j < k + 1 → (D.fails[j]).1 ≠ (D.since : Int)) := by
              intro j hj hjk
              rcases Nat.lt_or_ge j k with h1 | h1
              · exact HNo.out j hj h1
              · obtain rfl : j = k := by omega
                exact hAt
            clear hAt HNo
            generalize hp1 : (D.fails[k]).1 = p1 at *
            generalize hp2 : (D.fails[k]).2 = p2 at *
            clear hp1 hp2
            have q1 : (wr.alloc (.cells #[.int .i64 p1, .int .i64 p2] 159)).cell? ⟨b, 5, none⟩ = some (.int .i64 D.since) := cell_alloc c5'
            go_wp2
            go_quiet (fail)
            go_wp2
            exact ⟨⟨k + 1, by omega, by go_num, HNo'.out, (by repeat (first | (with_reducible assumption) | (with_reducible exact Frm.refl _ _) | (with_reducible apply Frm.drewN) | (with_reducible apply Frm.drew) | (with_reducible apply Frm.alloc) | (with_reducible refine Frm.setCell ?_ _ _ (fun h => absurd h (by first | (simp; done) | (simp; omega))))))⟩, by simp [intOf]; omega⟩
        · obtain rfl : k = D.fails.length := by omega
          have ha : D.armed = .goes := by
            have hf : D.fails.find? (fun p => decide (p.1 = (D.since : Int))) = none := by
              rw [List.find?_eq_none]
              intro p hp
              obtain ⟨j, hj, rfl⟩ := List.getElem_of_mem hp
              simpa using hno j hj hj
            simp only [Disk.armed, if_neg HC.out, hf]
          have HA := Lib.hid ha
          clear hno ha c5 c6 c7
          go_wp2
          go_ret2
          rw [HA.out]
          exact ⟨rfl, (by repeat (first | (with_reducible assumption) | (with_reducible exact Frm.refl _ _) | (with_reducible apply Frm.drewN) | (with_reducible apply Frm.drew) | (with_reducible apply Frm.alloc) | (with_reducible refine Frm.setCell ?_ _ _ (fun h => absurd h (by first | (simp; done) | (simp; omega))))))⟩
end Go.Proofs.YtkmmlfphcfcbgaaGreatDoor.Dw
