/- A part of the proof of diskDown_holds: DeRename, DeSync, Du, DeAppend, Ea, Eb, DeSyncNames. No condition. -/
import Derived.Test.YtglhedahannjiaaGreatDoorC14

/- Rename, whole (printed by wip/tools/wrap.py). -/
namespace Go.Proofs.YtglhedahannjiaaGreatDoor.Dw
open Go.RowKit Go.ChangeMaps Go.Proofs.YtglhedahannjiaaGreatDoor.Mp Go.Proofs.YtglhedahannjiaaGreatDoor.Dm Go.Proofs.YtglhedahannjiaaGreatDoor.Da
set_option linter.unusedVariables false
set_option linter.unusedSimpArgs false
set_option linter.unusedSectionVars false
set_option maxHeartbeats 1000000 in
set_option maxRecDepth 100000 in
theorem rename_calls {B : Nat} {w : World} {b : Nat} {A : Adr} {lab : Nat → Option Lb} {D : Disk} {eb : Nat → Addr} {L : List Err} (h : DiskAt B w b A lab D) (he : ErrsAt B w eb L) (hw : WF D) (hb : Bnd D) (n m : Name) (hm : m.size ≤ 9223372036854775807) :
    Calls Tryz.prog 84 #[dptr b, .string n, .string m] w fun e W' => e = .returned (errV eb (D.rename n m).1) ∧ Ext B b lab w W' (D.rename n m).2 := by
  have hlt : ∀ k p, lab k = some p → k < w.heap.size := fun k p hl => (h.base k p hl).2
  have l0 : ∀ i, lab (w.heap.size + i) = none := by
    intro i
    rcases hc : lab (w.heap.size + i) with _ | p
    · rfl
    · have := hlt _ p hc; omega
  have key : ∀ W0, W0 = (((w.alloc (.cells #[dptr b] 25)).alloc (.cells #[.string n] 9)).alloc (.cells #[.string m] 9)) →
      Calls Tryz.prog 47 #[dptr b, .func (.func 116) #[] #[.pointer (some ⟨w.heap.size, 0, none⟩), .pointer (some ⟨w.heap.size + 1, 0, none⟩), .pointer (some ⟨w.heap.size + 1 + 1, 0, none⟩)]] W0 fun e W' => e = .returned (errV eb (D.rename n m).1) ∧ Ext B b lab w W' (D.rename n m).2 := by
    intro W0 hW0
    have h0 : DiskAt B W0 b A lab D := by rw [hW0]; exact (((h.alloc _).alloc _).alloc _)
    have he0 : ErrsAt B W0 eb L := by rw [hW0]; exact (((he.alloc _).alloc _).alloc _)
    have f0 : Frm (Ft lab) w W0 := by rw [hW0]; exact ((((Frm.refl _ _).alloc _).alloc _).alloc _)
    have c0 : Cap W0 lab w.heap.size (dptr b) := ⟨by rw [hW0]; exact (cell_alloc (cell_alloc (cell_of blk_alloc rfl))), l0 0⟩
    have c1 : Cap W0 lab (w.heap.size + 1) (.string n) := ⟨by
      rw [hW0, show w.heap.size + 1 = (w.alloc (.cells #[dptr b] 25)).heap.size by simp only [World.size_alloc]]
      exact (cell_alloc (cell_of blk_alloc rfl)), l0 1⟩
    have c2 : Cap W0 lab (w.heap.size + 1 + 1) (.string m) := ⟨by
      rw [hW0, show w.heap.size + 1 + 1 = ((w.alloc (.cells #[dptr b] 25)).alloc (.cells #[.string n] 9)).heap.size by simp only [World.size_alloc]]
      exact (cell_of blk_alloc rfl), l0 2⟩
    have run := run_calls h0 he0 hb.count hb.since 116 #[.pointer (some ⟨w.heap.size, 0, none⟩), .pointer (some ⟨w.heap.size + 1, 0, none⟩), .pointer (some ⟨w.heap.size + 1 + 1, 0, none⟩)] (fun W => by kernel_rfl) (D.refuseRename n m) true 117
      #[.pointer (some ⟨w.heap.size + 1, 0, none⟩), .pointer (some ⟨w.heap.size + 1 + 1, 0, none⟩), .pointer (some ⟨w.heap.size, 0, none⟩)] (fun W => by kernel_rfl) (.nilFunc) (Disk.doRename n m) (none)
      (by
        intro W hx
        obtain ⟨A1, lab1, g1, g2, g3⟩ := hx
        refine (rename1 g1 (he0.frm g2 (Ft.low h0)) hw.tick n m hm _ _ _ (c0.frm g2) (c1.frm g2) (c2.frm g2)).mono ?_
        rintro e W' ⟨rfl, hf⟩
        exact ⟨rfl, Ext.keep ⟨A1, lab1, g1, g2, g3⟩ hf (fun _ _ h => h)⟩)
      (by
        intro h00 W D1 hD1 hx
        obtain ⟨A1, lab1, g1, g2, g3⟩ := hx
        have hw1 : WF D1 := by
          rcases hD1 with rfl | ⟨_, rfl⟩
          · exact hw.tick
          · exact hw.tick.dark
        have hb1 : D1.files.length < 4611686018427387904 ∧ D1.changes.length < 1099511627776 := by rcases hD1 with rfl | ⟨_, rfl⟩ <;> exact ⟨hb.files, hb.changes⟩
        have hex : (find D1.now n).isSome = true := by
          have e : D1.now = D.now := by rcases hD1 with rfl | ⟨_, rfl⟩ <;> rfl
          rw [e]; exact gone_zero (by have := h00; unfold Disk.refuseRename at this; split at this; cases this; exact this)
        refine (rename11 g1 hw1 n m hex _ _ _ (c1.ext (B := B) (b := b) g2 g3) (c2.ext (B := B) (b := b) g2 g3) (c0.ext (B := B) (b := b) g2 g3) hb1.2).mono ?_
        rintro e W' ⟨rfl, hx⟩
        exact ⟨rfl, Ext.trans g2 g3 hx⟩)
      (.inl ⟨rfl, rfl⟩)
    refine run.mono ?_
    rintro e W' ⟨rfl, hx⟩
    exact ⟨rfl, Ext.trans f0 (fun _ _ h => h) hx⟩
  unfold dptr at key ⊢
  have KEY := Lib.hid key
  clear key l0
  go_enter Tryz.func84, Tryz.ntmps84
  go_wp2_with fail
  refine (KEY.out _ rfl).mono ?_
  rintro e W' ⟨rfl, hx⟩
  generalize hev : errV eb (D.rename n m).1 = ev
  go_wp2
  go_ret
  rw [hev]
  exact ⟨rfl, hx⟩
end Go.Proofs.YtglhedahannjiaaGreatDoor.Dw

/- Sync, whole (printed by wip/tools/wrap.py). -/
namespace Go.Proofs.YtglhedahannjiaaGreatDoor.Dw
open Go.RowKit Go.ChangeMaps Go.Proofs.YtglhedahannjiaaGreatDoor.Mp Go.Proofs.YtglhedahannjiaaGreatDoor.Dm Go.Proofs.YtglhedahannjiaaGreatDoor.Da
set_option linter.unusedVariables false
set_option linter.unusedSimpArgs false
set_option linter.unusedSectionVars false
set_option maxHeartbeats 1000000 in
set_option maxRecDepth 100000 in
theorem sync_calls {B : Nat} {w : World} {b : Nat} {A : Adr} {lab : Nat → Option Lb} {D : Disk} {eb : Nat → Addr} {L : List Err} (h : DiskAt B w b A lab D) (he : ErrsAt B w eb L) (hw : WF D) (hb : Bnd D) (n : Name) :
    Calls Tryz.prog 14 #[dptr b, .string n] w fun e W' => e = .returned (errV eb (D.sync n).1) ∧ Ext B b lab w W' (D.sync n).2 := by
  have hlt : ∀ k p, lab k = some p → k < w.heap.size := fun k p hl => (h.base k p hl).2
  have l0 : ∀ i, lab (w.heap.size + i) = none := by
    intro i
    rcases hc : lab (w.heap.size + i) with _ | p
    · rfl
    · have := hlt _ p hc; omega
  have key : ∀ W0, W0 = ((w.alloc (.cells #[dptr b] 25)).alloc (.cells #[.string n] 9)) →
      Calls Tryz.prog 47 #[dptr b, .func (.func 57) #[] #[.pointer (some ⟨w.heap.size, 0, none⟩), .pointer (some ⟨w.heap.size + 1, 0, none⟩)]] W0 fun e W' => e = .returned (errV eb (D.sync n).1) ∧ Ext B b lab w W' (D.sync n).2 := by
    intro W0 hW0
    have h0 : DiskAt B W0 b A lab D := by rw [hW0]; exact ((h.alloc _).alloc _)
    have he0 : ErrsAt B W0 eb L := by rw [hW0]; exact ((he.alloc _).alloc _)
    have f0 : Frm (Ft lab) w W0 := by rw [hW0]; exact (((Frm.refl _ _).alloc _).alloc _)
    have c0 : Cap W0 lab w.heap.size (dptr b) := ⟨by rw [hW0]; exact (cell_alloc (cell_of blk_alloc rfl)), l0 0⟩
    have c1 : Cap W0 lab (w.heap.size + 1) (.string n) := ⟨by
      rw [hW0, show w.heap.size + 1 = (w.alloc (.cells #[dptr b] 25)).heap.size by simp only [World.size_alloc]]
      exact (cell_of blk_alloc rfl), l0 1⟩
    have run := run_calls h0 he0 hb.count hb.since 57 #[.pointer (some ⟨w.heap.size, 0, none⟩), .pointer (some ⟨w.heap.size + 1, 0, none⟩)] (fun W => by kernel_rfl) (D.gone n) false 58
      #[.pointer (some ⟨w.heap.size, 0, none⟩), .pointer (some ⟨w.heap.size + 1, 0, none⟩)] (fun W => by kernel_rfl) (.nilFunc) (Disk.onFile n FileS.sync) (none)
      (by
        intro W hx
        obtain ⟨A1, lab1, g1, g2, g3⟩ := hx
        refine (sync1 g1 (he0.frm g2 (Ft.low h0)) hw.tick n _ _ (c0.frm g2) (c1.frm g2)).mono ?_
        rintro e W' ⟨rfl, hf⟩
        exact ⟨rfl, Ext.keep ⟨A1, lab1, g1, g2, g3⟩ hf (fun _ _ h => h)⟩)
      (by
        intro h00 W D1 hD1 hx
        obtain ⟨A1, lab1, g1, g2, g3⟩ := hx
        have hw1 : WF D1 := by
          rcases hD1 with rfl | ⟨_, rfl⟩
          · exact hw.tick
          · exact hw.tick.dark
        have hb1 : D1.files.length < 4611686018427387904 ∧ D1.changes.length < 1099511627776 := by rcases hD1 with rfl | ⟨_, rfl⟩ <;> exact ⟨hb.files, hb.changes⟩
        have hex : (find D1.now n).isSome = true := by
          have e : D1.now = D.now := by rcases hD1 with rfl | ⟨_, rfl⟩ <;> rfl
          rw [e]; exact gone_zero h00
        have hlen : ∀ f, f ∈ D1.files → f.seen.length ≤ 4398046511104 := by
          have e : D1.files = D.files := by rcases hD1 with rfl | ⟨_, rfl⟩ <;> rfl
          rw [e]; exact hb.len
        refine (sync11 g1 hw1 n hex (fun f hf => Nat.le_trans (hlen f hf) (by omega)) _ _ (c0.ext (B := B) (b := b) g2 g3) (c1.ext (B := B) (b := b) g2 g3)).mono ?_
        rintro e W' ⟨rfl, hx⟩
        exact ⟨rfl, Ext.trans g2 g3 hx⟩)
      (.inl ⟨rfl, rfl⟩)
    refine run.mono ?_
    rintro e W' ⟨rfl, hx⟩
    exact ⟨rfl, Ext.trans f0 (fun _ _ h => h) hx⟩
  unfold dptr at key ⊢
  have KEY := Lib.hid key
  clear key l0
  go_enter Tryz.func14, Tryz.ntmps14
  go_wp2_with fail
  refine (KEY.out _ rfl).mono ?_
  rintro e W' ⟨rfl, hx⟩
  generalize hev : errV eb (D.sync n).1 = ev
  go_wp2
  go_ret
  rw [hev]
  exact ⟨rfl, hx⟩
end Go.Proofs.YtglhedahannjiaaGreatDoor.Dw

/- Walks: Append's closures. -/
namespace Go.Proofs.YtglhedahannjiaaGreatDoor.Dw
open Go.RowKit Go.ChangeMaps Go.Proofs.YtglhedahannjiaaGreatDoor.Mp Go.Proofs.YtglhedahannjiaaGreatDoor.Dm Go.Proofs.YtglhedahannjiaaGreatDoor.Da
set_option linter.unusedVariables false
set_option linter.unusedSimpArgs false
set_option linter.unusedSectionVars false
/-- Bytes that are none of the disk's. -/
def Given (w : World) (lab : Nat → Option Lb) (v : Value) (xs : List Int) : Prop := FromAt w v xs ∧ (xs ≠ [] → ∀ g o n c, v = .slice (some ⟨g, o, none⟩) n c → g < w.heap.size ∧ lab g = none)
theorem FromAt.empty {w w1 : World} {v : Value} (h : FromAt w v []) : FromAt w1 v [] := by
  rcases h with h | ⟨a, off, c, rfl, hc⟩ | h
  · exact .inl h
  · exact .inr (.inr ⟨_, _, rfl, rfl⟩)
  · exact .inr (.inr h)
theorem FromAt.frm {w w1 : World} {F : Nat → Prop} {v : Value} {xs : List Int} (h : FromAt w v xs) (hF : ∀ g o n c, v = .slice (some ⟨g, o, none⟩) n c → ¬ F g) (hf : Frm F w w1) : FromAt w1 v xs := by
  rcases h with h | ⟨a, off, c, rfl, hc⟩ | h
  · exact .inl h
  rotate_left
  · exact .inr (.inr h)
  · refine .inr (.inl ⟨a, off, c, rfl, fun j u hu => ?_⟩)
    have := hc j u hu
    rw [← this]
    exact hf.cell (World.block_lt_of_cell? w _ this) (hF a off _ c rfl)
theorem Given.frm {w w1 : World} {lab : Nat → Option Lb} {v : Value} {xs : List Int} (h : Given w lab v xs) (hf : Frm (Ft lab) w w1) : FromAt w1 v xs := by
  by_cases hx : xs = []
  · subst hx; exact FromAt.empty h.1
  · exact h.1.frm (fun g o n c e => by unfold Ft; rw [(h.2 hx g o n c e).2]; simp) hf
theorem Given.ext {w w1 : World} {lab lab1 : Nat → Option Lb} {v : Value} {xs : List Int} (h : Given w lab v xs) (hf : Frm (Ft lab) w w1) (hl : ∀ k, k < w.heap.size → Ft lab1 k → Ft lab k) : Given w1 lab1 v xs := by
  refine ⟨h.frm hf, fun hx g o n c e => ?_⟩
  obtain ⟨h1, h2⟩ := h.2 hx g o n c e
  refine ⟨Nat.lt_of_lt_of_le h1 hf.size, ?_⟩
  rcases hc : lab1 g with _ | p
  · rfl
  · have := hl g h1 (by unfold Ft; rw [hc]; rfl)
    unfold Ft at this
    rw [h2] at this
    cases this
set_option maxRecDepth 100000 in
theorem append1 {B : Nat} {W : World} {b : Nat} {A : Adr} {lab : Nat → Option Lb} {D : Disk} {eb : Nat → Addr} {L : List Err} (h : DiskAt B W b A lab D) (he : ErrsAt B W eb L) (hw : WF D) (n : Name) (cd cn cv : Nat)
    (h1 : W.cell? ⟨cd, 0, none⟩ = some (dptr b)) (h2 : W.cell? ⟨cn, 0, none⟩ = some (.string n)) :
    Calls Tryz.prog 52 #[.pointer (some ⟨cd, 0, none⟩), .pointer (some ⟨cn, 0, none⟩), .pointer (some ⟨cv, 0, none⟩)] W fun e W' =>
      e = .returned (.agg #[errV eb (D.gone n), .func (.func 54) #[] #[.pointer (some ⟨cd, 0, none⟩), .pointer (some ⟨cn, 0, none⟩), .pointer (some ⟨cv, 0, none⟩)], .bool true, .func (.func 56) #[] #[.pointer (some ⟨cd, 0, none⟩), .pointer (some ⟨cn, 0, none⟩), .pointer (some ⟨cv, 0, none⟩)]]) ∧ Frm (fun _ => False) W W' := by
  have n1 := World.block_lt_of_cell? W _ h1
  have n2 := World.block_lt_of_cell? W _ h2
  have key : ∀ o, Calls Tryz.prog 53 #[dptr b, .string n] (W.alloc o) fun e w' => e = .returned (errV eb (D.gone n)) ∧ w' = W.alloc o :=
    fun o => gone_calls (h.alloc o) (he.alloc o) hw.nowN n
  unfold dptr at h1 key
  have KEY := Lib.hid key
  clear key
  go_enter Tryz.func52, Tryz.ntmps52
  go_wp2_with fail
  refine (KEY.out _).mono ?_
  rintro e w' ⟨rfl, rfl⟩
  by_cases h0 : D.gone n = 0
  · rw [h0, errV_zero]
    go_wp2
    exact bodyPost_ret (v := .agg #[.nilIface, .func (.func 54) #[] #[.pointer (some ⟨cd, 0, none⟩), .pointer (some ⟨cn, 0, none⟩), .pointer (some ⟨cv, 0, none⟩)], .bool true, .func (.func 56) #[] #[.pointer (some ⟨cd, 0, none⟩), .pointer (some ⟨cn, 0, none⟩), .pointer (some ⟨cv, 0, none⟩)]]) (by simp [results, Tryz.results52, go_sem]) rfl ⟨by rw [h0, errV_zero], (by repeat (first | (with_reducible assumption) | (with_reducible exact Frm.refl _ _) | (with_reducible apply Frm.drewN) | (with_reducible apply Frm.drew) | (with_reducible apply Frm.alloc) | (with_reducible refine Frm.setCell ?_ _ _ (fun h => absurd h (by first | (simp; done) | (simp; omega))))))⟩
  · rw [errV_pos eb (D.gone n) h0]
    go_wp2
    exact bodyPost_ret (v := .agg #[.iface 228 (.pointer (some (eb (D.gone n)))), .func (.func 54) #[] #[.pointer (some ⟨cd, 0, none⟩), .pointer (some ⟨cn, 0, none⟩), .pointer (some ⟨cv, 0, none⟩)], .bool true, .func (.func 56) #[] #[.pointer (some ⟨cd, 0, none⟩), .pointer (some ⟨cn, 0, none⟩), .pointer (some ⟨cv, 0, none⟩)]]) (by simp [results, Tryz.results52, go_sem]) rfl ⟨by rw [errV_pos eb (D.gone n) h0], (by repeat (first | (with_reducible assumption) | (with_reducible exact Frm.refl _ _) | (with_reducible apply Frm.drewN) | (with_reducible apply Frm.drew) | (with_reducible apply Frm.alloc) | (with_reducible refine Frm.setCell ?_ _ _ (fun h => absurd h (by first | (simp; done) | (simp; omega))))))⟩
set_option maxHeartbeats 1000000 in
set_option maxRecDepth 100000 in
theorem append11 {B : Nat} {W : World} {b : Nat} {A : Adr} {lab : Nat → Option Lb} {D : Disk} (h : DiskAt B W b A lab D) (hw : WF D) (n : Name) (hex : (find D.now n).isSome = true) (v : Value) (data : List Int) (hv : Given W lab v data) (hlen : ∀ f, f ∈ D.files → f.seen.length ≤ 4398046511104) (hdl : data.length ≤ 4398046511104)
    (cd cn cv : Nat) (h1 : Cap W lab cd (dptr b)) (h2 : Cap W lab cn (.string n)) (h3 : Cap W lab cv v) :
    Calls Tryz.prog 54 #[.pointer (some ⟨cd, 0, none⟩), .pointer (some ⟨cn, 0, none⟩), .pointer (some ⟨cv, 0, none⟩)] W fun e W' => e = .returned (.tuple #[]) ∧ Ext B b lab W W' (D.onFile n (FileS.add data)) := by
  have q1 := h1.1
  have q2 := h2.1
  have q3 := h3.1
  obtain ⟨i, hi⟩ := Option.isSome_iff_exists.1 hex
  obtain ⟨f, hf⟩ := WF.file hw hi
  have hd : D.onFile n (FileS.add data) = D.modify i (FileS.add data) := by simp [Disk.onFile, hi]
  rw [hd]
  have r0 : W.cell? ⟨b, 0, none⟩ = some (.map (some A.nm)) := main_cell h.blk rfl
  obtain ⟨l', hp, hm⟩ := h.names
  have hl := look_names hp hw.nowN A n
  rw [hi] at hl
  have lk : ∀ nq, (Instr.lookup 85 (.map (some A.nm)) (.string n) false).run Tryz.prog (W.drewN nq) = .ok (.pointer (some ⟨(A.fa i).fb, 0, none⟩)) (W.drewN nq) := by
    intro nq
    have hm' : MapAt Value.string (W.drewN nq) A.nm (l'.map fun p => (p.1, fptr A p.2)) := hm.of_block rfl
    have := hm'.lookup kS Tryz.underlying85 (zP _) n false
    rw [this, hl]; rfl
  have hlf : f.seen.length ≤ 4398046511104 := hlen f (List.mem_of_getElem? hf)
  have key : ∀ nq, Calls Tryz.prog 55 #[.pointer (some ⟨(A.fa i).fb, 0, none⟩), v] (W.drewN nq) fun e w' => e = .returned (.tuple #[]) ∧ Ext B b lab W w' (D.modify i (FileS.add data)) := by
    intro nq
    have h' : DiskAt B (W.drewN nq) b A lab D := h.same (fun _ _ _ => rfl) (Nat.le_refl _)
    refine (add_calls h' hf v data (hv.frm ((Frm.refl _ _).drewN _)) (by omega)).mono ?_
    rintro e w' ⟨rfl, hx⟩
    exact ⟨rfl, Ext.trans ((Frm.refl _ _).drewN _) (fun _ _ h => h) hx⟩
  obtain ⟨pv, cc, rfl⟩ := hv.1.form
  have KEY1 : Hid (Calls Tryz.prog 55 #[.pointer (some ⟨(A.fa i).fb, 0, none⟩), .slice pv data.length cc] W.drew fun e w' => e = .returned (.tuple #[]) ∧ Ext B b lab W w' (D.modify i (FileS.add data))) := key 1
  have lkd : (Instr.lookup 85 (.map (some A.nm)) (.string n) false).run Tryz.prog W.drew = .ok (.pointer (some ⟨(A.fa i).fb, 0, none⟩)) W.drew := lk 1
  clear hl hp hd hi hex hlen hm key hv h1 h2 h3
  unfold dptr at q1
  clear h hf
  go_enter Tryz.func54, Tryz.ntmps54
  go_wp2
  go_still_tail 7, (by kernel_rfl)
  change wpList _ _ _ _ _ W.drew
  go_wp2_with (first | (go_at_call 55; refine KEY1.out.mono ?_; rintro e w' ⟨rfl, hx⟩))
  go_end0
  exact ⟨rfl, hx⟩
theorem FromAt.take {w : World} {p : Option Addr} {c : Nat} {xs : List Int} (h : FromAt w (.slice p xs.length c) xs) (k : Nat) (hk : k ≤ xs.length) : FromAt w (.slice p k c) (xs.take k) := by
  rcases h with ⟨h1, h2⟩ | ⟨a, off, c', h1, hc⟩ | ⟨ad, c', h1, h2⟩
  rotate_left 2
  · subst h2
    have hk0 : k = 0 := by simpa using hk
    subst hk0
    simp only [Value.slice.injEq] at h1
    obtain ⟨rfl, _, rfl⟩ := h1
    exact .inr (.inr ⟨p, c, rfl, rfl⟩)
  · subst h2
    have hk0 : k = 0 := by simpa using hk
    subst hk0
    simp only [Value.slice.injEq] at h1
    obtain ⟨rfl, _, rfl⟩ := h1
    exact .inl ⟨rfl, rfl⟩
  · simp only [Value.slice.injEq] at h1
    obtain ⟨rfl, _, rfl⟩ := h1
    refine .inr (.inl ⟨a, off, c, ?_, fun j u hu => hc j u ?_⟩)
    · rw [List.length_take, Nat.min_eq_left hk]
    · unfold u8s at hu ⊢
      rw [List.map_take] at hu
      have hj := (List.getElem?_eq_some_iff.1 hu).1
      rw [List.length_take] at hj
      rw [← hu, List.getElem?_take_of_lt (by omega)]
set_option maxHeartbeats 1000000 in
set_option maxRecDepth 100000 in
theorem append12 {B : Nat} {W : World} {b : Nat} {A : Adr} {lab : Nat → Option Lb} {D : Disk} (h : DiskAt B W b A lab D) (hw : WF D) (n : Name) (hex : (find D.now n).isSome = true) (v : Value) (data : List Int) (hv : Given W lab v data) (hcap : ∀ p k c, v = .slice p k c → k ≤ c) (hlen : ∀ f, f ∈ D.files → f.seen.length ≤ 4398046511104) (hdl : data.length ≤ 4398046511104)
    (k : Int) (cd cn cv : Nat) (h1 : Cap W lab cd (dptr b)) (h2 : Cap W lab cn (.string n)) (h3 : Cap W lab cv v) :
    Calls Tryz.prog 56 #[.int .i64 k, .pointer (some ⟨cd, 0, none⟩), .pointer (some ⟨cn, 0, none⟩), .pointer (some ⟨cv, 0, none⟩)] W fun e W' => e = .returned (.tuple #[]) ∧ Ext B b lab W W' (D.onFile n (FileS.add (data.take k.toNat))) := by
  have q1 := h1.1
  have q2 := h2.1
  have q3 := h3.1
  obtain ⟨i, hi⟩ := Option.isSome_iff_exists.1 hex
  obtain ⟨f, hf⟩ := WF.file hw hi
  obtain ⟨j, hj, hj2⟩ : ∃ j, j ≤ data.length ∧ data.take k.toNat = data.take j ∧ max 0 (min k (data.length : Int)) = (j : Int) := by
    rcases Nat.lt_or_ge k.toNat data.length with h | h
    · exact ⟨k.toNat, by omega, rfl, by omega⟩
    · exact ⟨data.length, Nat.le_refl _, by rw [List.take_of_length_le h, List.take_length], by omega⟩
  have hd : D.onFile n (FileS.add (data.take k.toNat)) = D.modify i (FileS.add (data.take j)) := by simp [Disk.onFile, hi, hj2.1]
  rw [hd]
  have r0 : W.cell? ⟨b, 0, none⟩ = some (.map (some A.nm)) := main_cell h.blk rfl
  obtain ⟨l', hp, hm⟩ := h.names
  have hl := look_names hp hw.nowN A n
  rw [hi] at hl
  have lkd : (Instr.lookup 85 (.map (some A.nm)) (.string n) false).run Tryz.prog W.drew = .ok (.pointer (some ⟨(A.fa i).fb, 0, none⟩)) W.drew := by
    have hm' : MapAt Value.string W.drew A.nm (l'.map fun p => (p.1, fptr A p.2)) := hm.of_block rfl
    have := hm'.lookup kS Tryz.underlying85 (zP _) n false
    rw [this, hl]; rfl
  have hlf : f.seen.length ≤ 4398046511104 := hlen f (List.mem_of_getElem? hf)
  obtain ⟨pv, cc, rfl⟩ := hv.1.form
  have key : Calls Tryz.prog 55 #[.pointer (some ⟨(A.fa i).fb, 0, none⟩), .slice pv j cc] W.drew fun e w' => e = .returned (.tuple #[]) ∧ Ext B b lab W w' (D.modify i (FileS.add (data.take j))) := by
    have h' : DiskAt B W.drew b A lab D := h.same (fun _ _ _ => rfl) (Nat.le_refl _)
    refine (add_calls h' hf _ (data.take j) (FromAt.take (hv.frm (Frm.refl _ _).drew) j hj) (by rw [List.length_take]; omega)).mono ?_
    rintro e w' ⟨rfl, hx⟩
    exact ⟨rfl, Ext.trans (Frm.refl _ _).drew (fun _ _ h => h) hx⟩
  have hcc := hcap _ _ _ rfl
  obtain ⟨_, hmm⟩ := hj2
  have KEY := Lib.hid key
  have HV : Hid (FromAt W (.slice pv data.length cc) data) := hv.1
  clear hl hp hd hi hex hlen hm key hv h1 h2 h3 hcap
  unfold dptr at q1
  clear h hf
  have hjc : j ≤ cc := Nat.le_trans hj hcc
  have hshape : (pv = none ∧ data.length = 0 ∧ j = 0) ∨ (∃ a off, pv = some ⟨a, off, none⟩) ∨ ∃ ad, pv = some ad ∧ data.length = 0 ∧ j = 0 := by
    rcases HV.out with ⟨e1, e2⟩ | ⟨a, off, c, e1, _⟩ | ⟨ad, c, e1, e2⟩
    · simp only [Value.slice.injEq] at e1
      subst e2
      exact .inl ⟨e1.1, rfl, by simpa using hj⟩
    · simp only [Value.slice.injEq] at e1
      exact .inr (.inl ⟨a, off, e1.1⟩)
    · simp only [Value.slice.injEq] at e1
      subst e2
      cases ad with
      | none => exact .inl ⟨e1.1, rfl, by simpa using hj⟩
      | some ad => exact .inr (.inr ⟨ad, e1.1, rfl, by simpa using hj⟩)
  clear HV hcc
  rcases hshape with ⟨rfl, e2, rfl⟩ | ⟨a, off, rfl⟩ | ⟨ad, rfl, e2, rfl⟩
  · rw [e2] at q3 hmm
    have hmm0 : max 0 (min k ((0 : Nat) : Int)) = 0 := hmm
    simp only [Int.natCast_zero] at hmm0
    clear hmm
    go_enter Tryz.func56, Tryz.ntmps56
    go_wp2_with fail
    go_still_tail 13, (by kernel_rfl)
    change wpList _ _ _ _ _ W.drew
    go_wp2_with (first | (go_at_call 55; refine KEY.out.mono ?_; rintro e w' ⟨rfl, hx⟩))
    go_end0
    exact ⟨rfl, hx⟩
  · go_enter Tryz.func56, Tryz.ntmps56
    go_wp2_with fail
    go_still_tail 13, (by kernel_rfl)
    change wpList _ _ _ _ _ W.drew
    go_wp2_with (first | (go_at_call 55; refine KEY.out.mono ?_; rintro e w' ⟨rfl, hx⟩))
    go_end0
    exact ⟨rfl, hx⟩
  · rw [e2] at q3 hmm
    have hmm0 : max 0 (min k ((0 : Nat) : Int)) = 0 := hmm
    simp only [Int.natCast_zero] at hmm0
    clear hmm
    go_enter Tryz.func56, Tryz.ntmps56
    go_wp2_with fail
    go_still_tail 13, (by kernel_rfl)
    change wpList _ _ _ _ _ W.drew
    go_wp2_with (first | (go_at_call 55; refine KEY.out.mono ?_; rintro e w' ⟨rfl, hx⟩))
    go_end0
    exact ⟨rfl, hx⟩
end Go.Proofs.YtglhedahannjiaaGreatDoor.Dw

/- Append, whole (printed by wip/tools/wrap.py). -/
namespace Go.Proofs.YtglhedahannjiaaGreatDoor.Dw
open Go.RowKit Go.ChangeMaps Go.Proofs.YtglhedahannjiaaGreatDoor.Mp Go.Proofs.YtglhedahannjiaaGreatDoor.Dm Go.Proofs.YtglhedahannjiaaGreatDoor.Da
set_option linter.unusedVariables false
set_option linter.unusedSimpArgs false
set_option linter.unusedSectionVars false
set_option maxHeartbeats 1000000 in
set_option maxRecDepth 100000 in
theorem append_calls {B : Nat} {w : World} {b : Nat} {A : Adr} {lab : Nat → Option Lb} {D : Disk} {eb : Nat → Addr} {L : List Err} (h : DiskAt B w b A lab D) (he : ErrsAt B w eb L) (hw : WF D) (hb : Bnd D) (n : Name) (pv : Option Addr) (cc : Nat) (data : List Int) (hv : Given w lab (.slice pv data.length cc) data) (hcc : data.length ≤ cc) (hdl : data.length ≤ 4398046511104) :
    Calls Tryz.prog 13 #[dptr b, .string n, .slice pv data.length cc] w fun e W' => e = .returned (errV eb (D.append n data).1) ∧ Ext B b lab w W' (D.append n data).2 := by
  have hlt : ∀ k p, lab k = some p → k < w.heap.size := fun k p hl => (h.base k p hl).2
  have l0 : ∀ i, lab (w.heap.size + i) = none := by
    intro i
    rcases hc : lab (w.heap.size + i) with _ | p
    · rfl
    · have := hlt _ p hc; omega
  have key : ∀ W0, W0 = (((w.alloc (.cells #[dptr b] 25)).alloc (.cells #[.string n] 9)).alloc (.cells #[.slice pv data.length cc] 22)) →
      Calls Tryz.prog 47 #[dptr b, .func (.func 52) #[] #[.pointer (some ⟨w.heap.size, 0, none⟩), .pointer (some ⟨w.heap.size + 1, 0, none⟩), .pointer (some ⟨w.heap.size + 1 + 1, 0, none⟩)]] W0 fun e W' => e = .returned (errV eb (D.append n data).1) ∧ Ext B b lab w W' (D.append n data).2 := by
    intro W0 hW0
    have h0 : DiskAt B W0 b A lab D := by rw [hW0]; exact (((h.alloc _).alloc _).alloc _)
    have he0 : ErrsAt B W0 eb L := by rw [hW0]; exact (((he.alloc _).alloc _).alloc _)
    have f0 : Frm (Ft lab) w W0 := by rw [hW0]; exact ((((Frm.refl _ _).alloc _).alloc _).alloc _)
    have hv0 : Given W0 lab (.slice pv data.length cc) data := hv.ext f0 (fun _ _ h => h)
    have c0 : Cap W0 lab w.heap.size (dptr b) := ⟨by rw [hW0]; exact (cell_alloc (cell_alloc (cell_of blk_alloc rfl))), l0 0⟩
    have c1 : Cap W0 lab (w.heap.size + 1) (.string n) := ⟨by
      rw [hW0, show w.heap.size + 1 = (w.alloc (.cells #[dptr b] 25)).heap.size by simp only [World.size_alloc]]
      exact (cell_alloc (cell_of blk_alloc rfl)), l0 1⟩
    have c2 : Cap W0 lab (w.heap.size + 1 + 1) (.slice pv data.length cc) := ⟨by
      rw [hW0, show w.heap.size + 1 + 1 = ((w.alloc (.cells #[dptr b] 25)).alloc (.cells #[.string n] 9)).heap.size by simp only [World.size_alloc]]
      exact (cell_of blk_alloc rfl), l0 2⟩
    have run := run_calls h0 he0 hb.count hb.since 52 #[.pointer (some ⟨w.heap.size, 0, none⟩), .pointer (some ⟨w.heap.size + 1, 0, none⟩), .pointer (some ⟨w.heap.size + 1 + 1, 0, none⟩)] (fun W => by kernel_rfl) (D.gone n) true 54
      #[.pointer (some ⟨w.heap.size, 0, none⟩), .pointer (some ⟨w.heap.size + 1, 0, none⟩), .pointer (some ⟨w.heap.size + 1 + 1, 0, none⟩)] (fun W => by kernel_rfl) (.func (.func 56) #[] #[.pointer (some ⟨w.heap.size, 0, none⟩), .pointer (some ⟨w.heap.size + 1, 0, none⟩), .pointer (some ⟨w.heap.size + 1 + 1, 0, none⟩)]) (Disk.onFile n (FileS.add data)) (some fun p => Disk.onFile n (FileS.add (data.take p.toNat)))
      (by
        intro W hx
        obtain ⟨A1, lab1, g1, g2, g3⟩ := hx
        refine (append1 g1 (he0.frm g2 (Ft.low h0)) hw.tick n _ _ _ (c0.frm g2) (c1.frm g2)).mono ?_
        rintro e W' ⟨rfl, hf⟩
        exact ⟨rfl, Ext.keep ⟨A1, lab1, g1, g2, g3⟩ hf (fun _ _ h => h)⟩)
      (by
        intro h00 W D1 hD1 hx
        obtain ⟨A1, lab1, g1, g2, g3⟩ := hx
        have hw1 : WF D1 := by
          rcases hD1 with rfl | ⟨_, rfl⟩
          · exact hw.tick
          · exact hw.tick.dark
        have hb1 : D1.files.length < 4611686018427387904 ∧ D1.changes.length < 1099511627776 := by rcases hD1 with rfl | ⟨_, rfl⟩ <;> exact ⟨hb.files, hb.changes⟩
        have hex : (find D1.now n).isSome = true := by
          have e : D1.now = D.now := by rcases hD1 with rfl | ⟨_, rfl⟩ <;> rfl
          rw [e]; exact gone_zero h00
        have hlen : ∀ f, f ∈ D1.files → f.seen.length ≤ 4398046511104 := by
          have e : D1.files = D.files := by rcases hD1 with rfl | ⟨_, rfl⟩ <;> rfl
          rw [e]; exact hb.len
        refine (append11 g1 hw1 n hex _ data (hv0.ext g2 g3) hlen hdl _ _ _ (c0.ext (B := B) (b := b) g2 g3) (c1.ext (B := B) (b := b) g2 g3) (c2.ext (B := B) (b := b) g2 g3)).mono ?_
        rintro e W' ⟨rfl, hx⟩
        exact ⟨rfl, Ext.trans g2 g3 hx⟩)
      (.inr ⟨56, #[.pointer (some ⟨w.heap.size, 0, none⟩), .pointer (some ⟨w.heap.size + 1, 0, none⟩), .pointer (some ⟨w.heap.size + 1 + 1, 0, none⟩)], _, rfl, rfl, fun _ W => by kernel_rfl, fun h00 m W hx => by
        obtain ⟨A1, lab1, g1, g2, g3⟩ := hx
        refine (append12 g1 hw.tick n (gone_zero (D := D) h00) _ data (hv0.ext g2 g3) (fun p k c e => by simp only [Value.slice.injEq] at e; omega) hb.len hdl m _ _ _ (c0.ext (B := B) (b := b) g2 g3) (c1.ext (B := B) (b := b) g2 g3) (c2.ext (B := B) (b := b) g2 g3)).mono ?_
        rintro e W' ⟨rfl, hx⟩
        exact ⟨rfl, Ext.trans g2 g3 hx⟩⟩)
    refine run.mono ?_
    rintro e W' ⟨rfl, hx⟩
    exact ⟨rfl, Ext.trans f0 (fun _ _ h => h) hx⟩
  unfold dptr at key ⊢
  have KEY := Lib.hid key
  clear key l0
  go_enter Tryz.func13, Tryz.ntmps13
  go_wp2_with fail
  refine (KEY.out _ rfl).mono ?_
  rintro e W' ⟨rfl, hx⟩
  generalize hev : errV eb (D.append n data).1 = ev
  go_wp2
  go_ret
  rw [hev]
  exact ⟨rfl, hx⟩
end Go.Proofs.YtglhedahannjiaaGreatDoor.Dw

/- Walks: New. -/
namespace Go.Proofs.YtglhedahannjiaaGreatDoor.Dw
open Go.RowKit Go.ChangeMaps Go.Proofs.YtglhedahannjiaaGreatDoor.Mp Go.Proofs.YtglhedahannjiaaGreatDoor.Dm Go.Proofs.YtglhedahannjiaaGreatDoor.Da
set_option linter.unusedVariables false
set_option linter.unusedSimpArgs false
set_option linter.unusedSectionVars false
def bornLab (s : Nat) : Nat → Option Lb := fun k => if k = s then some .names else if k = s + 1 then some .sure else if k = s + 2 then some .main else none
def bornAdr (s : Nat) : Adr := ⟨s, s + 1, .slice none 0 0, .slice none 0 0, fun _ => newFAdr 0⟩
def wBorn (w : World) : World := ((w.alloc (.map #[] 0)).alloc (.map #[] 0)).alloc (.cells #[.map (some w.heap.size), .map (some (w.heap.size + 1)), .slice none 0 0, .int .i64 0, .int .i64 0, .int .i64 0, .slice none 0 0, .int .i64 0, .bool false] 88)
theorem born (w : World) : DiskAt w.heap.size (wBorn w) (w.heap.size + 2) (bornAdr w.heap.size) (bornLab w.heap.size) Disk.new := by
  have me : ∀ {w' : World} {m : Nat}, w'.heap[m]? = some (.map #[] 0) → MapAt Value.string w' m ([] : List (Name × Value)) := fun hm => ⟨#[], 0, hm, ⟨by simp, by simp⟩, by simp⟩
  have e0 : (wBorn w).heap[w.heap.size]? = some (.map #[] 0) := by
    unfold wBorn
    rw [blk_alloc_lt (by simp only [World.size_alloc]; omega), blk_alloc_lt (by simp only [World.size_alloc]; omega)]
    exact blk_alloc
  have e1 : (wBorn w).heap[w.heap.size + 1]? = some (.map #[] 0) := by
    unfold wBorn
    rw [blk_alloc_lt (by simp only [World.size_alloc]; omega)]
    have := blk_alloc (w := w.alloc (.map #[] 0)) (o := .map #[] 0)
    simpa using this
  have e2 : (wBorn w).heap[w.heap.size + 2]? = some (.cells #[.map (some w.heap.size), .map (some (w.heap.size + 1)), .slice none 0 0, .int .i64 0, .int .i64 0, .int .i64 0, .slice none 0 0, .int .i64 0, .bool false] 88 (0, 0)) := by
    have := blk_alloc (w := (w.alloc (.map #[] 0)).alloc (.map #[] 0)) (o := .cells #[.map (some w.heap.size), .map (some (w.heap.size + 1)), .slice none 0 0, .int .i64 0, .int .i64 0, .int .i64 0, .slice none 0 0, .int .i64 0, .bool false] 88)
    simp only [World.size_alloc] at this
    exact this
  refine ⟨e2, by simp [bornLab], ⟨[], List.Perm.refl _, me e0⟩, by simp [bornLab, bornAdr], ⟨[], List.Perm.refl _, me e1⟩, by simp [bornLab, bornAdr], RowAt.none, RowAt.none, fun i f hf => by simp [Disk.new] at hf, fun k p hl => ?_⟩
  have hs : (wBorn w).heap.size = w.heap.size + 3 := by simp [wBorn]
  rw [hs]
  unfold bornLab at hl
  split at hl
  · omega
  · split at hl
    · omega
    · split at hl
      · omega
      · cases hl
theorem born_below (w : World) : Below w.heap.size w (wBorn w) := by
  unfold wBorn
  exact ((((Below.refl _ _).alloc (Nat.le_refl _) _).alloc (by simp) _).alloc (by simp; omega) _)
set_option maxRecDepth 100000 in
theorem new_calls (w : World) : Calls Tryz.prog 11 #[] w fun e w' => e = .returned (dptr (w.heap.size + 2)) ∧ w' = wBorn w := by
  have hmm := @run_makeMap Tryz.prog
  unfold dptr wBorn
  go_enter Tryz.func11, Tryz.ntmps11
  go_wp2
  go_ret
  exact ⟨rfl, rfl⟩
end Go.Proofs.YtglhedahannjiaaGreatDoor.Dw

/- Walks: SyncNames. -/
namespace Go.Proofs.YtglhedahannjiaaGreatDoor.Da
open Go.RowKit Go.ChangeMaps Go.Proofs.YtglhedahannjiaaGreatDoor.Mp Go.Proofs.YtglhedahannjiaaGreatDoor.Dm
set_option linter.unusedVariables false
set_option linter.unusedSimpArgs false
set_option linter.unusedSectionVars false
def sureLab (lab : Nat → Option Lb) (m2 : Nat) : Nat → Option Lb := fun k => if k = m2 then some .sure else if lab k = some .sure ∨ lab k = some .waiting then none else lab k
theorem DiskAt.names2 {B : Nat} {w w1 : World} {b : Nat} {A : Adr} {lab : Nat → Option Lb} {D : Disk} (h : DiskAt B w b A lab D) {m2 : Nat} {l : List (Name × Nat)} (hf : Frm (fun _ => False) w w1) (hm : NamesAt w1 m2 l A) (h1 : w.heap.size ≤ m2) (h2 : m2 < w1.heap.size) :
    Ext B b lab w ((w1.setCell ⟨b, 1, none⟩ (.map (some m2))).setCell ⟨b, 2, none⟩ (.slice none 0 0)) { D with sure := l, changes := [] } := by
  have hlt : ∀ k p, lab k = some p → k < w.heap.size := fun k p hl => (h.base k p hl).2
  have hl : ∀ k p, lab k = some p → p ≠ .sure → p ≠ .waiting → sureLab lab m2 k = some p := by
    intro k p hl hp hq
    have := hlt k p hl
    unfold sureLab
    rw [if_neg (by omega), if_neg (by rw [hl]; rintro (e | e) <;> cases e <;> contradiction), hl]
  have hk : ∀ k p, lab k = some p → p ≠ .main → ((w1.setCell ⟨b, 1, none⟩ (.map (some m2))).setCell ⟨b, 2, none⟩ (.slice none 0 0)).heap[k]? = w.heap[k]? := by
    intro k p hl hp
    rw [blk_set_ne (ne_of_lab hl h.lb hp), blk_set_ne (ne_of_lab hl h.lb hp)]
    exact hf.block k (hlt k p hl) id
  have hb1 : w1.heap[b]? = some (.cells (mainCells A D) 88 (0, 0)) := (hf.block b (hlt _ _ h.lb) id).trans h.blk
  have hbm : m2 ≠ b := by have := hlt _ _ h.lb; omega
  refine ⟨{ A with sm := m2, wv := .slice none 0 0 }, sureLab lab m2, ⟨?_, hl _ _ h.lb (by simp) (by simp), (h.names.same (hk _ _ h.lnm (by simp))), hl _ _ h.lnm (by simp) (by simp), ?_, ?_, RowAt.none, ?_, ?_, ?_⟩, ?_, ?_⟩
  · rw [blk_set (blk_set hb1)]; simp [mainCells]
  · refine NamesAt.same (w := w1) hm ?_
    rw [blk_set_ne hbm, blk_set_ne hbm]
  · unfold sureLab; rw [if_pos rfl]
  · exact (h.fails.same (fun k hl => hk k _ hl (by simp))).relab (fun k hl' => hl k _ hl' (by simp) (by simp))
  · intro i f hf'
    exact ((h.files i f hf').same (fun k p hl hp => hk k p hl (by rcases hp with rfl | rfl | rfl | rfl | rfl | rfl <;> simp))).relab
      (fun k p hl' hp => hl k p hl' (by rcases hp with rfl | rfl | rfl | rfl | rfl | rfl <;> simp) (by rcases hp with rfl | rfl | rfl | rfl | rfl | rfl <;> simp))
  · intro k p hl'
    have hs := hf.size
    simp only [World.size_setCell]
    have hB : B ≤ w.heap.size := Nat.le_of_lt (Nat.lt_of_le_of_lt (h.base b _ h.lb).1 (h.base b _ h.lb).2)
    unfold sureLab at hl'
    split at hl'
    · omega
    · split at hl'
      · cases hl'
      · have := h.base k p hl'; omega
  · have hF : Ft lab b := by unfold Ft; rw [h.lb]; rfl
    exact Frm.setCell (Frm.setCell (hf.mono (fun _ _ h => h.elim)) _ _ (fun _ => hF)) _ _ (fun _ => hF)
  · intro k hk' hl'
    unfold Ft sureLab at hl'
    unfold Ft
    rw [if_neg (by omega)] at hl'
    split at hl'
    · cases hl'
    · exact hl'
end Go.Proofs.YtglhedahannjiaaGreatDoor.Da
namespace Go.Proofs.YtglhedahannjiaaGreatDoor.Dw
open Go.RowKit Go.ChangeMaps Go.Proofs.YtglhedahannjiaaGreatDoor.Mp Go.Proofs.YtglhedahannjiaaGreatDoor.Dm Go.Proofs.YtglhedahannjiaaGreatDoor.Da
set_option linter.unusedVariables false
set_option linter.unusedSimpArgs false
set_option linter.unusedSectionVars false
set_option maxRecDepth 100000 in
theorem syncNames1 {W : World} (cd : Nat) : Calls Tryz.prog 60 #[.pointer (some ⟨cd, 0, none⟩)] W fun e W' =>
      e = .returned (.agg #[.nilIface, .func (.func 61) #[] #[.pointer (some ⟨cd, 0, none⟩)], .bool false, .nilFunc]) ∧ Frm (fun _ => False) W W' := by
  go_enter Tryz.func60, Tryz.ntmps60
  go_wp2
  exact bodyPost_ret (v := .agg #[.nilIface, .func (.func 61) #[] #[.pointer (some ⟨cd, 0, none⟩)], .bool false, .nilFunc]) (by simp [results, Tryz.results60, go_sem]) rfl ⟨rfl, (by repeat (first | (with_reducible assumption) | (with_reducible exact Frm.refl _ _) | (with_reducible apply Frm.drewN) | (with_reducible apply Frm.drew) | (with_reducible apply Frm.alloc) | (with_reducible refine Frm.setCell ?_ _ _ (fun h => absurd h (by first | (simp; done) | (simp; omega))))))⟩
set_option maxHeartbeats 1000000 in
set_option maxRecDepth 100000 in
theorem syncNames11 {B : Nat} {W : World} {b : Nat} {A : Adr} {lab : Nat → Option Lb} {D : Disk} (h : DiskAt B W b A lab D) (hw : WF D) (cd : Nat) (h1 : Cap W lab cd (dptr b)) (hC : D.changes.length < 1099511627776) :
    Calls Tryz.prog 61 #[.pointer (some ⟨cd, 0, none⟩)] W fun e W' => e = .returned (.tuple #[]) ∧ Ext B b lab W W' D.doSyncNames := by
  have q1 := h1.1
  have x1 : W.cell? ⟨b, 1, none⟩ = some (.map (some A.sm)) := main_cell h.blk rfl
  have x2 : W.cell? ⟨b, 2, none⟩ = some A.wv := main_cell h.blk rfl
  have xf : W.frozen? ⟨b, 1, none⟩ = false := frozen_of h.blk
  have blt := blk_lt h.blk
  have clt := h1.lt
  have hcb : cd ≠ b := by rintro rfl; have := h1.2; rw [h.lb] at this; cases this
  have hwv : (A.wv = .slice none 0 0 ∧ D.changes.length = 0) ∨ ∃ g c, A.wv = .slice (some ⟨g, 0, none⟩) D.changes.length c := by
    rcases h.waiting.cells with h2 | ⟨g, cap, hv, _⟩
    · exact .inl h2
    · exact .inr ⟨g, cap, hv⟩
  have h' : DiskAt B W.drew b A lab D := h.same (fun _ _ _ => rfl) (Nat.le_refl _)
  have KEY0 := left_calls h' hw (D.changes.length : Int) hC
  have hfin : Hid (∀ w1 m2, Frm (fun _ => False) W.drew w1 → NamesAt w1 m2 (D.left D.changes.length) A → W.heap.size ≤ m2 → m2 < w1.heap.size → Ext B b lab W ((w1.setCell ⟨b, 1, none⟩ (.map (some m2))).setCell ⟨b, 2, none⟩ (.slice none 0 0)) D.doSyncNames) := by
    intro w1 m2 hf hm g1 g2
    exact Ext.trans (Frm.refl _ _).drew (fun _ _ h => h) (h'.names2 hf hm g1 g2)
  have hblk := h.blk
  have HB := Lib.hid hblk
  have zz : Hid (∀ w1, Frm (fun _ => False) W.drew w1 → w1.cell? ⟨cd, 0, none⟩ = some (.pointer (some ⟨b, 0, none⟩)) ∧ w1.cell? ⟨b, 1, none⟩ = some (.map (some A.sm)) ∧ w1.cell? ⟨b, 2, none⟩ = some A.wv ∧ w1.frozen? ⟨b, 1, none⟩ = false ∧
      ∀ u, (w1.setCell ⟨b, 1, none⟩ u).cell? ⟨cd, 0, none⟩ = some (.pointer (some ⟨b, 0, none⟩)) ∧ (w1.setCell ⟨b, 1, none⟩ u).cell? ⟨b, 2, none⟩ = some A.wv ∧ (w1.setCell ⟨b, 1, none⟩ u).frozen? ⟨b, 2, none⟩ = false) := by
    intro w1 hf
    have e1 : w1.cell? ⟨cd, 0, none⟩ = some (.pointer (some ⟨b, 0, none⟩)) := (hf.cell clt id).trans q1
    have hbk : w1.heap[b]? = some (.cells (mainCells A D) 88 (0, 0)) := (hf.block b blt id).trans HB.out
    refine ⟨e1, cell_of hbk rfl, cell_of hbk rfl, frozen_of hbk, fun u => ⟨?_, cell_of (blk_set hbk) rfl, frozen_of (blk_set hbk)⟩⟩
    rw [World.cell?_setCell_other w1 _ _ u (fun e => hcb (by simpa using e.symm))]
    exact e1
  unfold dptr at q1
  clear h h1 h' hblk hw hC
  rcases hwv with ⟨e1, e2⟩ | ⟨g, c, e1⟩
  · rw [e1] at x2 zz
    rw [e2] at KEY0
    simp only [Int.natCast_zero, Int.toNat_zero] at KEY0
    rw [e2] at hfin
    have KEY := Lib.hid KEY0
    clear KEY0 e1 e2 hcb
    unfold dptr at KEY
    go_enter Tryz.func61, Tryz.ntmps61
    go_wp2_with fail
    go_region_held3 (fun w' => w'.cell? ⟨cd, 0, none⟩ = some (.pointer (some ⟨b, 0, none⟩)) ∧ w'.cell? ⟨b, 2, none⟩ = some (.slice none 0 0))
      (first | go_keep | exact ⟨(zz.out w1 HX.out.2.1).1, (zz.out w1 HX.out.2.1).2.2.1⟩ | exact ⟨((zz.out w1 HX.out.2.1).2.2.2.2 _).1, ((zz.out w1 HX.out.2.1).2.2.2.2 _).2.1⟩)
      (first | (go_at_call 62; (with_reducible refine KEY.out.mono ?_); rintro e w1 ⟨m2, rfl, hm, hf, g1, g2⟩; have z2 := (zz.out w1 hf).2.1; have z4 := (zz.out w1 hf).2.2.2.1; have y1 := fun u => ((zz.out w1 hf).2.2.2.2 u).1; have y2 := fun u => ((zz.out w1 hf).2.2.2.2 u).2.1; have y3 := fun u => ((zz.out w1 hf).2.2.2.2 u).2.2; have HX := Lib.hid (And.intro hm (And.intro hf (And.intro g1 g2))); clear hm hf g1 g2))
    all_goals
      go_wp2
      go_end0
      exact ⟨rfl, hfin.out _ _ HX.out.2.1 HX.out.1 HX.out.2.2.1 HX.out.2.2.2⟩
  · rw [e1] at x2 zz
    simp only [Int.toNat_natCast] at KEY0
    have KEY := Lib.hid KEY0
    clear KEY0 e1 hcb
    unfold dptr at KEY
    go_enter Tryz.func61, Tryz.ntmps61
    go_wp2_with fail
    go_region_held3 (fun w' => w'.cell? ⟨cd, 0, none⟩ = some (.pointer (some ⟨b, 0, none⟩)) ∧ w'.cell? ⟨b, 2, none⟩ = some (.slice (some ⟨g, 0, none⟩) D.changes.length c))
      (first | go_keep | exact ⟨(zz.out w1 HX.out.2.1).1, (zz.out w1 HX.out.2.1).2.2.1⟩ | exact ⟨((zz.out w1 HX.out.2.1).2.2.2.2 _).1, ((zz.out w1 HX.out.2.1).2.2.2.2 _).2.1⟩)
      (first | (go_at_call 62; (with_reducible refine KEY.out.mono ?_); rintro e w1 ⟨m2, rfl, hm, hf, g1, g2⟩; have z2 := (zz.out w1 hf).2.1; have z4 := (zz.out w1 hf).2.2.2.1; have y1 := fun u => ((zz.out w1 hf).2.2.2.2 u).1; have y2 := fun u => ((zz.out w1 hf).2.2.2.2 u).2.1; have y3 := fun u => ((zz.out w1 hf).2.2.2.2 u).2.2; have HX := Lib.hid (And.intro hm (And.intro hf (And.intro g1 g2))); clear hm hf g1 g2))
    all_goals
      go_wp2
      go_end0
      exact ⟨rfl, hfin.out _ _ HX.out.2.1 HX.out.1 HX.out.2.2.1 HX.out.2.2.2⟩
end Go.Proofs.YtglhedahannjiaaGreatDoor.Dw

/- SyncNames, whole (printed by wip/tools/wrap.py). -/
namespace Go.Proofs.YtglhedahannjiaaGreatDoor.Dw
open Go.RowKit Go.ChangeMaps Go.Proofs.YtglhedahannjiaaGreatDoor.Mp Go.Proofs.YtglhedahannjiaaGreatDoor.Dm Go.Proofs.YtglhedahannjiaaGreatDoor.Da
set_option linter.unusedVariables false
set_option linter.unusedSimpArgs false
set_option linter.unusedSectionVars false
set_option maxHeartbeats 1000000 in
set_option maxRecDepth 100000 in
theorem syncnames_calls {B : Nat} {w : World} {b : Nat} {A : Adr} {lab : Nat → Option Lb} {D : Disk} {eb : Nat → Addr} {L : List Err} (h : DiskAt B w b A lab D) (he : ErrsAt B w eb L) (hw : WF D) (hb : Bnd D)  :
    Calls Tryz.prog 15 #[dptr b] w fun e W' => e = .returned (errV eb (D.syncNames).1) ∧ Ext B b lab w W' (D.syncNames).2 := by
  have hlt : ∀ k p, lab k = some p → k < w.heap.size := fun k p hl => (h.base k p hl).2
  have l0 : ∀ i, lab (w.heap.size + i) = none := by
    intro i
    rcases hc : lab (w.heap.size + i) with _ | p
    · rfl
    · have := hlt _ p hc; omega
  have key : ∀ W0, W0 = (w.alloc (.cells #[dptr b] 25)) →
      Calls Tryz.prog 47 #[dptr b, .func (.func 60) #[] #[.pointer (some ⟨w.heap.size, 0, none⟩)]] W0 fun e W' => e = .returned (errV eb (D.syncNames).1) ∧ Ext B b lab w W' (D.syncNames).2 := by
    intro W0 hW0
    have h0 : DiskAt B W0 b A lab D := by rw [hW0]; exact (h.alloc _)
    have he0 : ErrsAt B W0 eb L := by rw [hW0]; exact (he.alloc _)
    have f0 : Frm (Ft lab) w W0 := by rw [hW0]; exact ((Frm.refl _ _).alloc _)
    have c0 : Cap W0 lab w.heap.size (dptr b) := ⟨by rw [hW0]; exact (cell_of blk_alloc rfl), l0 0⟩
    have run := run_calls h0 he0 hb.count hb.since 60 #[.pointer (some ⟨w.heap.size, 0, none⟩)] (fun W => by kernel_rfl) (0) false 61
      #[.pointer (some ⟨w.heap.size, 0, none⟩)] (fun W => by kernel_rfl) (.nilFunc) (Disk.doSyncNames) (none)
      (by
        intro W hx
        obtain ⟨A1, lab1, g1, g2, g3⟩ := hx
        refine (syncNames1 (W := W) _).mono ?_
        rintro e W' ⟨rfl, hf⟩
        exact ⟨rfl, Ext.keep ⟨A1, lab1, g1, g2, g3⟩ hf (fun _ _ h => h)⟩)
      (by
        intro h00 W D1 hD1 hx
        obtain ⟨A1, lab1, g1, g2, g3⟩ := hx
        have hw1 : WF D1 := by
          rcases hD1 with rfl | ⟨_, rfl⟩
          · exact hw.tick
          · exact hw.tick.dark
        have hb1 : D1.files.length < 4611686018427387904 ∧ D1.changes.length < 1099511627776 := by rcases hD1 with rfl | ⟨_, rfl⟩ <;> exact ⟨hb.files, hb.changes⟩
        refine (syncNames11 g1 hw1 _ (c0.ext (B := B) (b := b) g2 g3) hb1.2).mono ?_
        rintro e W' ⟨rfl, hx⟩
        exact ⟨rfl, Ext.trans g2 g3 hx⟩)
      (.inl ⟨rfl, rfl⟩)
    refine run.mono ?_
    rintro e W' ⟨rfl, hx⟩
    exact ⟨rfl, Ext.trans f0 (fun _ _ h => h) hx⟩
  unfold dptr at key ⊢
  have KEY := Lib.hid key
  clear key l0
  go_enter Tryz.func15, Tryz.ntmps15
  go_wp2_with fail
  refine (KEY.out _ rfl).mono ?_
  rintro e W' ⟨rfl, hx⟩
  generalize hev : errV eb (D.syncNames).1 = ev
  go_wp2
  go_ret
  rw [hev]
  exact ⟨rfl, hx⟩
end Go.Proofs.YtglhedahannjiaaGreatDoor.Dw
