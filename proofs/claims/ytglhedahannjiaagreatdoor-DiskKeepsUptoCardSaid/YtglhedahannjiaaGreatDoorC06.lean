/- A part of the proof of diskDown_holds: Dr, Df, Dg. No condition. -/
import Derived.Laws.EntriesVeiled
import Derived.Test.YtglhedahannjiaaGreatDoorC05

/- Walks: how an operation runs. -/
namespace Go.Proofs.YtglhedahannjiaaGreatDoor.Dw
open Go.RowKit Go.ChangeMaps Go.Proofs.YtglhedahannjiaaGreatDoor.Mp Go.Proofs.YtglhedahannjiaaGreatDoor.Dm Go.Proofs.YtglhedahannjiaaGreatDoor.Da
set_option linter.unusedVariables false
set_option linter.unusedSimpArgs false
set_option linter.unusedSectionVars false
theorem tick_ext {B : Nat} {w : World} {b : Nat} {A : Adr} {lab : Nat → Option Lb} {D : Disk} (h : DiskAt B w b A lab D) :
    DiskAt B ((w.setCell ⟨b, 4, none⟩ (.int .i64 (D.count + 1))).setCell ⟨b, 5, none⟩ (.int .i64 (D.since + 1))) b A lab D.tick ∧
      Frm (Ft lab) w ((w.setCell ⟨b, 4, none⟩ (.int .i64 (D.count + 1))).setCell ⟨b, 5, none⟩ (.int .i64 (D.since + 1))) := by
  have hF : Ft lab b := by unfold Ft; rw [h.lb]; rfl
  constructor
  · refine h.scalar (D' := D.tick) ?_ ?_ ?_ rfl rfl rfl rfl rfl
    · rw [blk_set (blk_set h.blk)]
      simp [mainCells, Disk.tick]
    · intro k hk hne
      rw [blk_set_ne hne, blk_set_ne hne]
    · simp
  · exact ((Frm.refl _ _).setCell _ _ (fun _ => hF)).setCell _ _ (fun _ => hF)
theorem dark_ext {B : Nat} {w : World} {b : Nat} {A : Adr} {lab : Nat → Option Lb} {D : Disk} (h : DiskAt B w b A lab D) :
    DiskAt B (w.setCell ⟨b, 8, none⟩ (.bool true)) b A lab D.dark ∧ Frm (Ft lab) w (w.setCell ⟨b, 8, none⟩ (.bool true)) := by
  have hF : Ft lab b := by unfold Ft; rw [h.lb]; rfl
  constructor
  · refine h.scalar (D' := D.dark) ?_ ?_ ?_ rfl rfl rfl rfl rfl
    · rw [blk_set h.blk]
      simp [mainCells, Disk.dark]
    · intro k hk hne
      rw [blk_set_ne hne]
    · simp
  · exact (Frm.refl _ _).setCell _ _ (fun _ => hF)
theorem neq_nilFunc (W : World) : (binOp .neq 90 .nilFunc .nilFunc).run Tryz.prog W = .ok (.bool false) W := by kernel_rfl
theorem neq_func (f : Fn) (x y : Array Value) (W : World) : (binOp .neq 90 (.func f x y) .nilFunc).run Tryz.prog W = .ok (.bool true) W := by kernel_rfl
/-- A closure of the program can be called. -/
def Callable (f : FuncId) (args : Array Value) : Prop := ∀ W, (callFunc f args).run Tryz.prog W = .ok (.enter f args) W
set_option maxRecDepth 100000 in
theorem run_off {B : Nat} {w : World} {b : Nat} {A : Adr} {lab : Nat → Option Lb} {D : Disk} {eb : Nat → Addr} {L : List Err} (h : DiskAt B w b A lab D) (he : ErrsAt B w eb L) (hoff : D.off = true) (plan : Value) :
    Calls Tryz.prog 47 #[dptr b, plan] w fun e w' => e = .returned (errV eb eDown) ∧ w' = w := by
  have c8 : w.cell? ⟨b, 8, none⟩ = some (.bool true) := main_cell h.blk (by rw [← hoff]; rfl)
  have cd := he.down
  unfold dptr
  go_enter Tryz.func47, Tryz.ntmps47
  go_wp2
  go_ret
  exact ⟨rfl, rfl⟩
set_option maxHeartbeats 4000000 in
set_option maxRecDepth 100000 in
theorem run_cut {B : Nat} {w : World} {b : Nat} {A : Adr} {lab : Nat → Option Lb} {D : Disk} {eb : Nat → Addr} {L : List Err} (h : DiskAt B w b A lab D) (he : ErrsAt B w eb L) (hoff : D.off = false)
    (hc : D.count < 4611686018427387904) (hs : D.since < 4611686018427387904) (hcut : D.tick.armed = .cut)
    (pf : FuncId) (caps : Array Value) (hpf : Callable pf caps) (ref : Err) (wt : Bool) (df : FuncId) (dcaps : Array Value) (hdf : Callable df dcaps) (pv : Value) (hpv : pv = .nilFunc ∨ ∃ qf qcaps, pv = .func (.func qf) #[] qcaps) (act : Disk → Disk)
    (hplan : ∀ W, Ext B b lab w W D.tick → Calls Tryz.prog pf caps W fun e W' => e = .returned (.agg #[errV eb ref, .func (.func df) #[] dcaps, .bool wt, pv]) ∧ Ext B b lab w W' D.tick)
    (hdo : ref = 0 → wt = true → ∀ W D1, D1 = D.tick.dark → Ext B b lab w W D1 → Calls Tryz.prog df dcaps W fun e W' => e = .returned (.tuple #[]) ∧ Ext B b lab w W' (act D1)) :
    Calls Tryz.prog 47 #[dptr b, .func (.func pf) #[] caps] w fun e W' => e = .returned (errV eb eDown) ∧ Ext B b lab w W' (if ref = 0 ∧ wt = true then act D.tick.dark else D.tick.dark) := by
  have c8 : w.cell? ⟨b, 8, none⟩ = some (.bool false) := main_cell h.blk (by rw [← hoff]; rfl)
  have c4 : w.cell? ⟨b, 4, none⟩ = some (.int .i64 D.count) := main_cell h.blk rfl
  have c5 : w.cell? ⟨b, 5, none⟩ = some (.int .i64 D.since) := main_cell h.blk rfl
  have f4 : w.frozen? ⟨b, 4, none⟩ = false := frozen_of h.blk
  have f5 : w.frozen? ⟨b, 5, none⟩ = false := frozen_of h.blk
  obtain ⟨t1, t2⟩ := tick_ext h
  have T := Lib.hid (Ext.trans (w0 := w) t2 (fun k _ hk => hk) (Ext.refl t1))
  clear t1 t2
  have HP := Lib.hid hplan
  have HD := Lib.hid hdo
  have HPF := hpf
  unfold Callable at hpf
  clear hplan hdo
  have hft : ∀ k, Ft lab k → B ≤ k := fun k hk => by obtain ⟨p, hp⟩ := Option.isSome_iff_exists.1 hk; exact (h.base k p hp).1
  have HC := Lib.hid hcut
  clear hcut
  unfold Callable at hdf
  generalize hR : (if ref = 0 ∧ wt = true then act D.tick.dark else D.tick.dark) = R
  unfold dptr
  by_cases href : ref = 0
  · have hrv : errV eb ref = .nilIface := by rw [href]; rfl
    rw [hrv] at HP
    clear hrv
    rcases hpv with rfl | ⟨qf, qcaps, rfl⟩
    all_goals
      cases wt with
      | true =>
        have HR2 : Hid (act D.tick.dark = R) := by rw [← hR, if_pos ⟨href, rfl⟩]; exact rfl
        have HR := Lib.hid href
        clear href hR
        go_enter Tryz.func47, Tryz.ntmps47
        go_wp2_with fail
        refine (HP.out _ T.out).mono ?_
        rintro e w1 ⟨rfl, hx⟩
        clear T HP
        obtain ⟨A1, lab1, h1, hf1, hl1⟩ := hx
        have he1 := Lib.hid (he.frm hf1 hft)
        have H1 := Lib.hid h1
        go_wp2_with fail
        refine (armed_calls (H1.out.alloc _) (he1.out.alloc _)).mono ?_
        rw [HC.out]
        rintro e w2 ⟨rfl, hf2⟩
        unfold whatV
        rw [errV_pos _ _ (by decide)]
        have he2 := Lib.hid (ErrsAt.frm (he1.out.alloc _) hf2 (fun _ h => h.elim))
        have H2 := Lib.hid (DiskAt.frame (H1.out.alloc _) hf2 (fun _ h => h.elim))
        have HX := Lib.hid (Ext.trans (w0 := w) (w2 := w2) (D2 := D.tick) (hf1.trans (((Frm.refl (fun _ => False) w1).alloc _).trans hf2 (fun _ _ h => h)) (fun _ _ h => h.elim)) hl1 (Ext.refl H2.out))
        have cd2 := he2.out.down
        have hop2 := Lib.hid ((hf2.block w1.heap.size (by simp) id).trans blk_alloc)
        have o0 := cell_of (i := 0) hop2.out rfl
        have o1 := cell_of (i := 1) hop2.out rfl
        have o2 := cell_of (i := 2) hop2.out rfl
        have c82 : w2.cell? ⟨b, 8, none⟩ = some (.bool D.tick.off) := main_cell H2.out.blk rfl
        have f82 : w2.frozen? ⟨b, 8, none⟩ = false := frozen_of H2.out.blk
        have hne := World.new_ne w1 ⟨b, 8, none⟩ (main_cell H1.out.blk rfl)
        go_wp2_with (first | (go_at_call 100; refine (Ei.is_same _ _).mono ?_; rintro e w' ⟨rfl, rfl⟩))
        obtain ⟨d1, d2⟩ := dark_ext H2.out
        refine (HD.out HR.out (by trivial) _ _ (by trivial) (Ext.trans (hf1.trans (((Frm.refl (fun _ => False) w1).alloc _).trans hf2 (fun _ _ h => h)) (fun _ _ h => h.elim)) hl1 (Ext.trans d2 (fun _ _ h => h) (Ext.refl d1)))).mono ?_
        clear d1 d2
        rintro e w3 ⟨rfl, hx3⟩
        rw [HR2.out] at hx3
        go_wp2
        go_ret
        exact ⟨rfl, hx3⟩
      | false =>
        have HR2 : Hid (D.tick.dark = R) := by rw [← hR, if_neg (by simp)]; exact rfl
        clear href hR
        go_enter Tryz.func47, Tryz.ntmps47
        go_wp2_with fail
        refine (HP.out _ T.out).mono ?_
        rintro e w1 ⟨rfl, hx⟩
        clear T HP
        obtain ⟨A1, lab1, h1, hf1, hl1⟩ := hx
        have he1 := Lib.hid (he.frm hf1 hft)
        have H1 := Lib.hid h1
        go_wp2_with fail
        refine (armed_calls (H1.out.alloc _) (he1.out.alloc _)).mono ?_
        rw [HC.out]
        rintro e w2 ⟨rfl, hf2⟩
        unfold whatV
        rw [errV_pos _ _ (by decide)]
        have he2 := Lib.hid (ErrsAt.frm (he1.out.alloc _) hf2 (fun _ h => h.elim))
        have H2 := Lib.hid (DiskAt.frame (H1.out.alloc _) hf2 (fun _ h => h.elim))
        have HX := Lib.hid (Ext.trans (w0 := w) (w2 := w2) (D2 := D.tick) (hf1.trans (((Frm.refl (fun _ => False) w1).alloc _).trans hf2 (fun _ _ h => h)) (fun _ _ h => h.elim)) hl1 (Ext.refl H2.out))
        have cd2 := he2.out.down
        have hop2 := Lib.hid ((hf2.block w1.heap.size (by simp) id).trans blk_alloc)
        have o0 := cell_of (i := 0) hop2.out rfl
        have o1 := cell_of (i := 1) hop2.out rfl
        have o2 := cell_of (i := 2) hop2.out rfl
        have c82 : w2.cell? ⟨b, 8, none⟩ = some (.bool D.tick.off) := main_cell H2.out.blk rfl
        have f82 : w2.frozen? ⟨b, 8, none⟩ = false := frozen_of H2.out.blk
        have hne := World.new_ne w1 ⟨b, 8, none⟩ (main_cell H1.out.blk rfl)
        go_wp2_with (first | (go_at_call 100; refine (Ei.is_same _ _).mono ?_; rintro e w' ⟨rfl, rfl⟩))
        go_ret
        obtain ⟨d1, d2⟩ := dark_ext H2.out
        rw [← HR2.out]
        exact ⟨rfl, Ext.trans (hf1.trans (((Frm.refl (fun _ => False) w1).alloc _).trans hf2 (fun _ _ h => h)) (fun _ _ h => h.elim)) hl1 (Ext.trans d2 (fun _ _ h => h) (Ext.refl d1))⟩
  · have hrv : errV eb ref = .iface 228 (.pointer (some (eb ref))) := errV_pos _ _ href
    rw [hrv] at HP
    clear hrv
    rcases hpv with rfl | ⟨qf, qcaps, rfl⟩
    all_goals
      cases wt with
      | true =>
        have HR2 : Hid (D.tick.dark = R) := by rw [← hR, if_neg (fun h => href h.1)]; exact rfl
        clear href hR
        go_enter Tryz.func47, Tryz.ntmps47
        go_wp2_with fail
        refine (HP.out _ T.out).mono ?_
        rintro e w1 ⟨rfl, hx⟩
        clear T HP
        obtain ⟨A1, lab1, h1, hf1, hl1⟩ := hx
        have he1 := Lib.hid (he.frm hf1 hft)
        have H1 := Lib.hid h1
        go_wp2_with fail
        refine (armed_calls (H1.out.alloc _) (he1.out.alloc _)).mono ?_
        rw [HC.out]
        rintro e w2 ⟨rfl, hf2⟩
        unfold whatV
        rw [errV_pos _ _ (by decide)]
        have he2 := Lib.hid (ErrsAt.frm (he1.out.alloc _) hf2 (fun _ h => h.elim))
        have H2 := Lib.hid (DiskAt.frame (H1.out.alloc _) hf2 (fun _ h => h.elim))
        have HX := Lib.hid (Ext.trans (w0 := w) (w2 := w2) (D2 := D.tick) (hf1.trans (((Frm.refl (fun _ => False) w1).alloc _).trans hf2 (fun _ _ h => h)) (fun _ _ h => h.elim)) hl1 (Ext.refl H2.out))
        have cd2 := he2.out.down
        have hop2 := Lib.hid ((hf2.block w1.heap.size (by simp) id).trans blk_alloc)
        have o0 := cell_of (i := 0) hop2.out rfl
        have o1 := cell_of (i := 1) hop2.out rfl
        have o2 := cell_of (i := 2) hop2.out rfl
        have c82 : w2.cell? ⟨b, 8, none⟩ = some (.bool D.tick.off) := main_cell H2.out.blk rfl
        have f82 : w2.frozen? ⟨b, 8, none⟩ = false := frozen_of H2.out.blk
        have hne := World.new_ne w1 ⟨b, 8, none⟩ (main_cell H1.out.blk rfl)
        go_wp2_with (first | (go_at_call 100; refine (Ei.is_same _ _).mono ?_; rintro e w' ⟨rfl, rfl⟩))
        go_ret
        obtain ⟨d1, d2⟩ := dark_ext H2.out
        rw [← HR2.out]
        exact ⟨rfl, Ext.trans (hf1.trans (((Frm.refl (fun _ => False) w1).alloc _).trans hf2 (fun _ _ h => h)) (fun _ _ h => h.elim)) hl1 (Ext.trans d2 (fun _ _ h => h) (Ext.refl d1))⟩
      | false =>
        have HR2 : Hid (D.tick.dark = R) := by rw [← hR, if_neg (fun h => href h.1)]; exact rfl
        clear href hR
        go_enter Tryz.func47, Tryz.ntmps47
        go_wp2_with fail
        refine (HP.out _ T.out).mono ?_
        rintro e w1 ⟨rfl, hx⟩
        clear T HP
        obtain ⟨A1, lab1, h1, hf1, hl1⟩ := hx
        have he1 := Lib.hid (he.frm hf1 hft)
        have H1 := Lib.hid h1
        go_wp2_with fail
        refine (armed_calls (H1.out.alloc _) (he1.out.alloc _)).mono ?_
        rw [HC.out]
        rintro e w2 ⟨rfl, hf2⟩
        unfold whatV
        rw [errV_pos _ _ (by decide)]
        have he2 := Lib.hid (ErrsAt.frm (he1.out.alloc _) hf2 (fun _ h => h.elim))
        have H2 := Lib.hid (DiskAt.frame (H1.out.alloc _) hf2 (fun _ h => h.elim))
        have HX := Lib.hid (Ext.trans (w0 := w) (w2 := w2) (D2 := D.tick) (hf1.trans (((Frm.refl (fun _ => False) w1).alloc _).trans hf2 (fun _ _ h => h)) (fun _ _ h => h.elim)) hl1 (Ext.refl H2.out))
        have cd2 := he2.out.down
        have hop2 := Lib.hid ((hf2.block w1.heap.size (by simp) id).trans blk_alloc)
        have o0 := cell_of (i := 0) hop2.out rfl
        have o1 := cell_of (i := 1) hop2.out rfl
        have o2 := cell_of (i := 2) hop2.out rfl
        have c82 : w2.cell? ⟨b, 8, none⟩ = some (.bool D.tick.off) := main_cell H2.out.blk rfl
        have f82 : w2.frozen? ⟨b, 8, none⟩ = false := frozen_of H2.out.blk
        have hne := World.new_ne w1 ⟨b, 8, none⟩ (main_cell H1.out.blk rfl)
        go_wp2_with (first | (go_at_call 100; refine (Ei.is_same _ _).mono ?_; rintro e w' ⟨rfl, rfl⟩))
        go_ret
        obtain ⟨d1, d2⟩ := dark_ext H2.out
        rw [← HR2.out]
        exact ⟨rfl, Ext.trans (hf1.trans (((Frm.refl (fun _ => False) w1).alloc _).trans hf2 (fun _ _ h => h)) (fun _ _ h => h.elim)) hl1 (Ext.trans d2 (fun _ _ h => h) (Ext.refl d1))⟩
end Go.Proofs.YtglhedahannjiaaGreatDoor.Dw

/- Walks: how an operation runs, where it fails and where it goes. -/
namespace Go.Proofs.YtglhedahannjiaaGreatDoor.Dw
open Go.RowKit Go.ChangeMaps Go.Proofs.YtglhedahannjiaaGreatDoor.Mp Go.Proofs.YtglhedahannjiaaGreatDoor.Dm Go.Proofs.YtglhedahannjiaaGreatDoor.Da
set_option linter.unusedVariables false
set_option linter.unusedSimpArgs false
set_option linter.unusedSectionVars false
set_option maxHeartbeats 4000000 in
set_option maxRecDepth 100000 in
theorem run_fails {B : Nat} {w : World} {b : Nat} {A : Adr} {lab : Nat → Option Lb} {D : Disk} {eb : Nat → Addr} {L : List Err} (h : DiskAt B w b A lab D) (he : ErrsAt B w eb L) (hoff : D.off = false)
    (hc : D.count < 4611686018427387904) (hs : D.since < 4611686018427387904) (n : Int) (harm : D.tick.armed = .fails n)
    (pf : FuncId) (caps : Array Value) (hpf : Callable pf caps) (ref : Err) (wt : Bool) (df : FuncId) (dcaps : Array Value) (hdf : Callable df dcaps) (pv : Value) (part : Option (Int → Disk → Disk))
    (hpv : (pv = .nilFunc ∧ part = none) ∨ ∃ qf qcaps p, pv = .func (.func qf) #[] qcaps ∧ part = some p ∧ Callable qf (#[.int .i64 n] ++ qcaps) ∧
      (ref = 0 → ∀ W, Ext B b lab w W D.tick → Calls Tryz.prog qf (#[.int .i64 n] ++ qcaps) W fun e W' => e = .returned (.tuple #[]) ∧ Ext B b lab w W' (p n D.tick)))
    (hplan : ∀ W, Ext B b lab w W D.tick → Calls Tryz.prog pf caps W fun e W' => e = .returned (.agg #[errV eb ref, .func (.func df) #[] dcaps, .bool wt, pv]) ∧ Ext B b lab w W' D.tick) :
    Calls Tryz.prog 47 #[dptr b, .func (.func pf) #[] caps] w fun e W' => e = .returned (errV eb eIo) ∧ Ext B b lab w W' (failTo ref n part D.tick) := by
  have c8 : w.cell? ⟨b, 8, none⟩ = some (.bool false) := main_cell h.blk (by rw [← hoff]; rfl)
  have c4 : w.cell? ⟨b, 4, none⟩ = some (.int .i64 D.count) := main_cell h.blk rfl
  have c5 : w.cell? ⟨b, 5, none⟩ = some (.int .i64 D.since) := main_cell h.blk rfl
  have f4 : w.frozen? ⟨b, 4, none⟩ = false := frozen_of h.blk
  have f5 : w.frozen? ⟨b, 5, none⟩ = false := frozen_of h.blk
  obtain ⟨t1, t2⟩ := tick_ext h
  have T := Lib.hid (Ext.trans (w0 := w) t2 (fun k _ hk => hk) (Ext.refl t1))
  clear t1 t2
  have HP := Lib.hid hplan
  have HPF := hpf
  unfold Callable at hpf
  clear hplan
  have qn := neq_nilFunc
  have qf' := neq_func
  have hft : ∀ k, Ft lab k → B ≤ k := fun k hk => by obtain ⟨p, hp⟩ := Option.isSome_iff_exists.1 hk; exact (h.base k p hp).1
  have HC := Lib.hid harm
  clear harm
  unfold Callable at hdf
  unfold dptr
  generalize hR : (failTo ref n part D.tick) = R
  rcases hpv with ⟨rfl, rfl⟩ | ⟨qf, qcaps, p, rfl, rfl, hqf, hq⟩
  · have HR2 : Hid (D.tick = R) := hR
    clear hR
    by_cases href : ref = 0
    · have hrv : errV eb ref = .nilIface := by rw [href]; rfl
      rw [hrv] at HP
      clear hrv href
      go_enter Tryz.func47, Tryz.ntmps47
      go_wp2_with fail
      refine (HP.out _ T.out).mono ?_
      rintro e w1 ⟨rfl, hx⟩
      clear T HP
      obtain ⟨A1, lab1, h1, hf1, hl1⟩ := hx
      have he1 := Lib.hid (he.frm hf1 hft)
      have H1 := Lib.hid h1
      go_wp2_with fail
      refine (armed_calls (H1.out.alloc _) (he1.out.alloc _)).mono ?_
      rw [HC.out]
      rintro e w2 ⟨rfl, hf2⟩
      unfold whatV
      rw [errV_pos eb eIo (by decide)]
      have he2 := Lib.hid (ErrsAt.frm (he1.out.alloc _) hf2 (fun _ h => h.elim))
      have H2 := Lib.hid (DiskAt.frame (H1.out.alloc _) hf2 (fun _ h => h.elim))
      have HX := Lib.hid (Ext.trans (w0 := w) (w2 := w2) (D2 := D.tick) (hf1.trans (((Frm.refl (fun _ => False) w1).alloc _).trans hf2 (fun _ _ h => h)) (fun _ _ h => h.elim)) hl1 (Ext.refl H2.out))
      have cd2 := he2.out.down
      have hop2 := Lib.hid ((hf2.block w1.heap.size (by simp) id).trans blk_alloc)
      have o0 := cell_of (i := 0) hop2.out rfl
      have o1 := cell_of (i := 1) hop2.out rfl
      have o2 := cell_of (i := 2) hop2.out rfl
      have ci2 := he2.out.io
      have o3 := cell_of (i := 3) hop2.out rfl
      obtain ⟨x6, t6, hx6⟩ := he2.out.blk 6 (he2.out.six 6 (by simp))
      obtain ⟨x7, t7, hx7⟩ := he2.out.blk 7 (he2.out.six 7 (by simp))
      have h67 : eb 6 ≠ eb 7 := fun e => absurd (he2.out.inj 6 7 (he2.out.six 6 (by simp)) (he2.out.six 7 (by simp)) e) (by decide)
      go_wp2_with (first | (go_at_call 100; (with_reducible refine (Ei.is_same _ _).mono ?_); rintro e w' ⟨rfl, rfl⟩) | (go_at_call 100; refine (Ei.is_other _ _ _ _ _ _ _ h67 hx6 hx7).mono ?_; rintro e w' ⟨rfl, rfl⟩))
      go_ret
      rw [← HR2.out]
      exact ⟨rfl, HX.out⟩
    · have hrv : errV eb ref = .iface 228 (.pointer (some (eb ref))) := errV_pos _ _ href
      rw [hrv] at HP
      clear hrv href
      go_enter Tryz.func47, Tryz.ntmps47
      go_wp2_with fail
      refine (HP.out _ T.out).mono ?_
      rintro e w1 ⟨rfl, hx⟩
      clear T HP
      obtain ⟨A1, lab1, h1, hf1, hl1⟩ := hx
      have he1 := Lib.hid (he.frm hf1 hft)
      have H1 := Lib.hid h1
      go_wp2_with fail
      refine (armed_calls (H1.out.alloc _) (he1.out.alloc _)).mono ?_
      rw [HC.out]
      rintro e w2 ⟨rfl, hf2⟩
      unfold whatV
      rw [errV_pos eb eIo (by decide)]
      have he2 := Lib.hid (ErrsAt.frm (he1.out.alloc _) hf2 (fun _ h => h.elim))
      have H2 := Lib.hid (DiskAt.frame (H1.out.alloc _) hf2 (fun _ h => h.elim))
      have HX := Lib.hid (Ext.trans (w0 := w) (w2 := w2) (D2 := D.tick) (hf1.trans (((Frm.refl (fun _ => False) w1).alloc _).trans hf2 (fun _ _ h => h)) (fun _ _ h => h.elim)) hl1 (Ext.refl H2.out))
      have cd2 := he2.out.down
      have hop2 := Lib.hid ((hf2.block w1.heap.size (by simp) id).trans blk_alloc)
      have o0 := cell_of (i := 0) hop2.out rfl
      have o1 := cell_of (i := 1) hop2.out rfl
      have o2 := cell_of (i := 2) hop2.out rfl
      have ci2 := he2.out.io
      have o3 := cell_of (i := 3) hop2.out rfl
      obtain ⟨x6, t6, hx6⟩ := he2.out.blk 6 (he2.out.six 6 (by simp))
      obtain ⟨x7, t7, hx7⟩ := he2.out.blk 7 (he2.out.six 7 (by simp))
      have h67 : eb 6 ≠ eb 7 := fun e => absurd (he2.out.inj 6 7 (he2.out.six 6 (by simp)) (he2.out.six 7 (by simp)) e) (by decide)
      go_wp2_with (first | (go_at_call 100; (with_reducible refine (Ei.is_same _ _).mono ?_); rintro e w' ⟨rfl, rfl⟩) | (go_at_call 100; refine (Ei.is_other _ _ _ _ _ _ _ h67 hx6 hx7).mono ?_; rintro e w' ⟨rfl, rfl⟩))
      go_ret
      rw [← HR2.out]
      exact ⟨rfl, HX.out⟩
  · unfold Callable at hqf
    have HQ := Lib.hid hq
    clear hq
    by_cases href : ref = 0
    · have HR2 : Hid (p n D.tick = R) := by show p n D.tick = R; rw [← hR]; simp [failTo, href]
      have HR := Lib.hid href
      have hrv : errV eb ref = .nilIface := by rw [href]; rfl
      rw [hrv] at HP
      clear hrv href hR
      go_enter Tryz.func47, Tryz.ntmps47
      go_wp2_with fail
      refine (HP.out _ T.out).mono ?_
      rintro e w1 ⟨rfl, hx⟩
      clear T HP
      obtain ⟨A1, lab1, h1, hf1, hl1⟩ := hx
      have he1 := Lib.hid (he.frm hf1 hft)
      have H1 := Lib.hid h1
      go_wp2_with fail
      refine (armed_calls (H1.out.alloc _) (he1.out.alloc _)).mono ?_
      rw [HC.out]
      rintro e w2 ⟨rfl, hf2⟩
      unfold whatV
      rw [errV_pos eb eIo (by decide)]
      have he2 := Lib.hid (ErrsAt.frm (he1.out.alloc _) hf2 (fun _ h => h.elim))
      have H2 := Lib.hid (DiskAt.frame (H1.out.alloc _) hf2 (fun _ h => h.elim))
      have HX := Lib.hid (Ext.trans (w0 := w) (w2 := w2) (D2 := D.tick) (hf1.trans (((Frm.refl (fun _ => False) w1).alloc _).trans hf2 (fun _ _ h => h)) (fun _ _ h => h.elim)) hl1 (Ext.refl H2.out))
      have cd2 := he2.out.down
      have hop2 := Lib.hid ((hf2.block w1.heap.size (by simp) id).trans blk_alloc)
      have o0 := cell_of (i := 0) hop2.out rfl
      have o1 := cell_of (i := 1) hop2.out rfl
      have o2 := cell_of (i := 2) hop2.out rfl
      have ci2 := he2.out.io
      have o3 := cell_of (i := 3) hop2.out rfl
      obtain ⟨x6, t6, hx6⟩ := he2.out.blk 6 (he2.out.six 6 (by simp))
      obtain ⟨x7, t7, hx7⟩ := he2.out.blk 7 (he2.out.six 7 (by simp))
      have h67 : eb 6 ≠ eb 7 := fun e => absurd (he2.out.inj 6 7 (he2.out.six 6 (by simp)) (he2.out.six 7 (by simp)) e) (by decide)
      go_wp2_with (first | (go_at_call 100; (with_reducible refine (Ei.is_same _ _).mono ?_); rintro e w' ⟨rfl, rfl⟩) | (go_at_call 100; refine (Ei.is_other _ _ _ _ _ _ _ h67 hx6 hx7).mono ?_; rintro e w' ⟨rfl, rfl⟩))
      refine (HQ.out HR.out _ HX.out).mono ?_
      rintro e w3 ⟨rfl, hx3⟩
      rw [HR2.out] at hx3
      go_wp2
      go_ret
      exact ⟨rfl, hx3⟩
    · have HR2 : Hid (D.tick = R) := by show D.tick = R; rw [← hR]; simp [failTo, href]
      have hrv : errV eb ref = .iface 228 (.pointer (some (eb ref))) := errV_pos _ _ href
      rw [hrv] at HP
      clear hrv href hR
      go_enter Tryz.func47, Tryz.ntmps47
      go_wp2_with fail
      refine (HP.out _ T.out).mono ?_
      rintro e w1 ⟨rfl, hx⟩
      clear T HP
      obtain ⟨A1, lab1, h1, hf1, hl1⟩ := hx
      have he1 := Lib.hid (he.frm hf1 hft)
      have H1 := Lib.hid h1
      go_wp2_with fail
      refine (armed_calls (H1.out.alloc _) (he1.out.alloc _)).mono ?_
      rw [HC.out]
      rintro e w2 ⟨rfl, hf2⟩
      unfold whatV
      rw [errV_pos eb eIo (by decide)]
      have he2 := Lib.hid (ErrsAt.frm (he1.out.alloc _) hf2 (fun _ h => h.elim))
      have H2 := Lib.hid (DiskAt.frame (H1.out.alloc _) hf2 (fun _ h => h.elim))
      have HX := Lib.hid (Ext.trans (w0 := w) (w2 := w2) (D2 := D.tick) (hf1.trans (((Frm.refl (fun _ => False) w1).alloc _).trans hf2 (fun _ _ h => h)) (fun _ _ h => h.elim)) hl1 (Ext.refl H2.out))
      have cd2 := he2.out.down
      have hop2 := Lib.hid ((hf2.block w1.heap.size (by simp) id).trans blk_alloc)
      have o0 := cell_of (i := 0) hop2.out rfl
      have o1 := cell_of (i := 1) hop2.out rfl
      have o2 := cell_of (i := 2) hop2.out rfl
      have ci2 := he2.out.io
      have o3 := cell_of (i := 3) hop2.out rfl
      obtain ⟨x6, t6, hx6⟩ := he2.out.blk 6 (he2.out.six 6 (by simp))
      obtain ⟨x7, t7, hx7⟩ := he2.out.blk 7 (he2.out.six 7 (by simp))
      have h67 : eb 6 ≠ eb 7 := fun e => absurd (he2.out.inj 6 7 (he2.out.six 6 (by simp)) (he2.out.six 7 (by simp)) e) (by decide)
      go_wp2_with (first | (go_at_call 100; (with_reducible refine (Ei.is_same _ _).mono ?_); rintro e w' ⟨rfl, rfl⟩) | (go_at_call 100; refine (Ei.is_other _ _ _ _ _ _ _ h67 hx6 hx7).mono ?_; rintro e w' ⟨rfl, rfl⟩))
      go_ret
      rw [← HR2.out]
      exact ⟨rfl, HX.out⟩
end Go.Proofs.YtglhedahannjiaaGreatDoor.Dw

/- Walks: how an operation runs, where it fails and where it goes. -/
namespace Go.Proofs.YtglhedahannjiaaGreatDoor.Dw
open Go.RowKit Go.ChangeMaps Go.Proofs.YtglhedahannjiaaGreatDoor.Mp Go.Proofs.YtglhedahannjiaaGreatDoor.Dm Go.Proofs.YtglhedahannjiaaGreatDoor.Da
set_option linter.unusedVariables false
set_option linter.unusedSimpArgs false
set_option linter.unusedSectionVars false
set_option maxHeartbeats 4000000 in
set_option maxRecDepth 100000 in
theorem run_goes {B : Nat} {w : World} {b : Nat} {A : Adr} {lab : Nat → Option Lb} {D : Disk} {eb : Nat → Addr} {L : List Err} (h : DiskAt B w b A lab D) (he : ErrsAt B w eb L) (hoff : D.off = false)
    (hc : D.count < 4611686018427387904) (hs : D.since < 4611686018427387904) (harm : D.tick.armed = .goes)
    (pf : FuncId) (caps : Array Value) (hpf : Callable pf caps) (ref : Err) (wt : Bool) (df : FuncId) (dcaps : Array Value) (hdf : Callable df dcaps) (pv : Value) (hpv : pv = .nilFunc ∨ ∃ qf qcaps, pv = .func (.func qf) #[] qcaps) (act : Disk → Disk)
    (hplan : ∀ W, Ext B b lab w W D.tick → Calls Tryz.prog pf caps W fun e W' => e = .returned (.agg #[errV eb ref, .func (.func df) #[] dcaps, .bool wt, pv]) ∧ Ext B b lab w W' D.tick)
    (hdo : ref = 0 → ∀ W D1, D1 = D.tick → Ext B b lab w W D1 → Calls Tryz.prog df dcaps W fun e W' => e = .returned (.tuple #[]) ∧ Ext B b lab w W' (act D1)) :
    Calls Tryz.prog 47 #[dptr b, .func (.func pf) #[] caps] w fun e W' => e = .returned (errV eb ref) ∧ Ext B b lab w W' (if ref = 0 then act D.tick else D.tick) := by
  have c8 : w.cell? ⟨b, 8, none⟩ = some (.bool false) := main_cell h.blk (by rw [← hoff]; rfl)
  have c4 : w.cell? ⟨b, 4, none⟩ = some (.int .i64 D.count) := main_cell h.blk rfl
  have c5 : w.cell? ⟨b, 5, none⟩ = some (.int .i64 D.since) := main_cell h.blk rfl
  have f4 : w.frozen? ⟨b, 4, none⟩ = false := frozen_of h.blk
  have f5 : w.frozen? ⟨b, 5, none⟩ = false := frozen_of h.blk
  obtain ⟨t1, t2⟩ := tick_ext h
  have T := Lib.hid (Ext.trans (w0 := w) t2 (fun k _ hk => hk) (Ext.refl t1))
  clear t1 t2
  have HP := Lib.hid hplan
  have HPF := hpf
  unfold Callable at hpf
  clear hplan
  have hft : ∀ k, Ft lab k → B ≤ k := fun k hk => by obtain ⟨p, hp⟩ := Option.isSome_iff_exists.1 hk; exact (h.base k p hp).1
  have HC := Lib.hid harm
  clear harm
  unfold Callable at hdf
  unfold dptr
  have HD := Lib.hid hdo
  clear hdo
  generalize hR : (if ref = 0 then act D.tick else D.tick) = R
  by_cases href : ref = 0
  · have HR2 : Hid (act D.tick = R) := by rw [← hR, if_pos href]; exact rfl
    have HR := Lib.hid href
    have hrv : errV eb ref = .nilIface := by rw [href]; rfl
    rw [hrv] at HP
    rw [hrv]
    clear hrv href hR
    rcases hpv with rfl | ⟨qf, qcaps, rfl⟩
    all_goals
      go_enter Tryz.func47, Tryz.ntmps47
      go_wp2_with fail
      refine (HP.out _ T.out).mono ?_
      rintro e w1 ⟨rfl, hx⟩
      clear T HP
      obtain ⟨A1, lab1, h1, hf1, hl1⟩ := hx
      have he1 := Lib.hid (he.frm hf1 hft)
      have H1 := Lib.hid h1
      go_wp2_with fail
      refine (armed_calls (H1.out.alloc _) (he1.out.alloc _)).mono ?_
      rw [HC.out]
      rintro e w2 ⟨rfl, hf2⟩
      unfold whatV
      try rw [errV_pos _ _ (by decide)]
      have he2 := Lib.hid (ErrsAt.frm (he1.out.alloc _) hf2 (fun _ h => h.elim))
      have H2 := Lib.hid (DiskAt.frame (H1.out.alloc _) hf2 (fun _ h => h.elim))
      have HX := Lib.hid (Ext.trans (w0 := w) (w2 := w2) (D2 := D.tick) (hf1.trans (((Frm.refl (fun _ => False) w1).alloc _).trans hf2 (fun _ _ h => h)) (fun _ _ h => h.elim)) hl1 (Ext.refl H2.out))
      have cd2 := he2.out.down
      have hop2 := Lib.hid ((hf2.block w1.heap.size (by simp) id).trans blk_alloc)
      have o0 := cell_of (i := 0) hop2.out rfl
      have o1 := cell_of (i := 1) hop2.out rfl
      have o2 := cell_of (i := 2) hop2.out rfl
      have ci2 := he2.out.io
      have o3 := cell_of (i := 3) hop2.out rfl
      obtain ⟨x6, t6, hx6⟩ := he2.out.blk 6 (he2.out.six 6 (by simp))
      obtain ⟨x7, t7, hx7⟩ := he2.out.blk 7 (he2.out.six 7 (by simp))
      have h67 : eb 6 ≠ eb 7 := fun e => absurd (he2.out.inj 6 7 (he2.out.six 6 (by simp)) (he2.out.six 7 (by simp)) e) (by decide)
      go_wp2_with (first | (go_at_call 100; refine (Ei.is_nil _ _).mono ?_; rintro e w' ⟨rfl, rfl⟩))
      refine (HD.out HR.out _ _ rfl HX.out).mono ?_
      rintro e w3 ⟨rfl, hx3⟩
      rw [HR2.out] at hx3
      go_wp2
      go_ret
      exact ⟨rfl, hx3⟩
  · have HR2 : Hid (D.tick = R) := by rw [← hR, if_neg href]; exact rfl
    have hrv : errV eb ref = .iface 228 (.pointer (some (eb ref))) := errV_pos _ _ href
    rw [hrv] at HP
    rw [hrv]
    clear hrv href hR
    rcases hpv with rfl | ⟨qf, qcaps, rfl⟩
    all_goals
      go_enter Tryz.func47, Tryz.ntmps47
      go_wp2_with fail
      refine (HP.out _ T.out).mono ?_
      rintro e w1 ⟨rfl, hx⟩
      clear T HP
      obtain ⟨A1, lab1, h1, hf1, hl1⟩ := hx
      have he1 := Lib.hid (he.frm hf1 hft)
      have H1 := Lib.hid h1
      go_wp2_with fail
      refine (armed_calls (H1.out.alloc _) (he1.out.alloc _)).mono ?_
      rw [HC.out]
      rintro e w2 ⟨rfl, hf2⟩
      unfold whatV
      try rw [errV_pos _ _ (by decide)]
      have he2 := Lib.hid (ErrsAt.frm (he1.out.alloc _) hf2 (fun _ h => h.elim))
      have H2 := Lib.hid (DiskAt.frame (H1.out.alloc _) hf2 (fun _ h => h.elim))
      have HX := Lib.hid (Ext.trans (w0 := w) (w2 := w2) (D2 := D.tick) (hf1.trans (((Frm.refl (fun _ => False) w1).alloc _).trans hf2 (fun _ _ h => h)) (fun _ _ h => h.elim)) hl1 (Ext.refl H2.out))
      have cd2 := he2.out.down
      have hop2 := Lib.hid ((hf2.block w1.heap.size (by simp) id).trans blk_alloc)
      have o0 := cell_of (i := 0) hop2.out rfl
      have o1 := cell_of (i := 1) hop2.out rfl
      have o2 := cell_of (i := 2) hop2.out rfl
      have ci2 := he2.out.io
      have o3 := cell_of (i := 3) hop2.out rfl
      obtain ⟨x6, t6, hx6⟩ := he2.out.blk 6 (he2.out.six 6 (by simp))
      obtain ⟨x7, t7, hx7⟩ := he2.out.blk 7 (he2.out.six 7 (by simp))
      have h67 : eb 6 ≠ eb 7 := fun e => absurd (he2.out.inj 6 7 (he2.out.six 6 (by simp)) (he2.out.six 7 (by simp)) e) (by decide)
      go_wp2_with (first | (go_at_call 100; refine (Ei.is_nil _ _).mono ?_; rintro e w' ⟨rfl, rfl⟩))
      go_ret
      rw [← HR2.out]
      exact ⟨rfl, HX.out⟩
end Go.Proofs.YtglhedahannjiaaGreatDoor.Dw
