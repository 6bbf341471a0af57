/- A part of the proof of segmentMemoryUpto_holds: Fb, Fd0, Es. No condition. -/
import Derived.Test.YtkmmlfphcfcbgaaGreatDoorC19

/- Walks: Arm. -/
namespace Go.Proofs.YtkmmlfphcfcbgaaGreatDoor.Da
open Go.RowKit Go.ChangeMaps Go.Proofs.YtkmmlfphcfcbgaaGreatDoor.Mp Go.Proofs.YtkmmlfphcfcbgaaGreatDoor.Dm Go.Proofs.YtkmmlfphcfcbgaaGreatDoor.Dw
set_option linter.unusedVariables false
set_option linter.unusedSimpArgs false
set_option linter.unusedSectionVars false
/-- The row of the failures is another one, in new memory. -/
theorem DiskAt.setFails {B : Nat} {w w1 : World} {b : Nat} {A : Adr} {lab : Nat → Option Lb} {D : Disk} (h : DiskAt B w b A lab D) {v' : Value} {fs : List (Int × Int)} (hrow : w1.ownsRow w.heap.size 159 2 v' fs.length (fs.flatMap failCells)) (hf : Frm (fun _ => False) w w1) :
    DiskAt B (w1.setCell ⟨b, 6, none⟩ v') b { A with fv := v' } (moveLab lab .fails v'.ownBlock) { D with fails := fs } ∧ Frm (Ft lab) w (w1.setCell ⟨b, 6, none⟩ v') ∧
      (∀ k, k < w.heap.size → Ft (moveLab lab .fails v'.ownBlock) k → Ft lab k) := by
  have hv : ∀ g, v'.ownBlock = some g → w.heap.size ≤ g ∧ g < w1.heap.size := fun g hg => own_low hrow hg
  have hlow : ∀ i, v'.ownBlock = some i → lab i = some .fails ∨ lab i = none := by
    intro i hi
    right
    rcases hl : lab i with _ | p
    · rfl
    · have := (h.base i p hl).2
      have := (hv i hi).1
      omega
  have hml : ∀ k q, lab k = some q → q ≠ .fails → moveLab lab .fails v'.ownBlock k = some q := fun k q hl hq => moveLab_other hq hl hlow
  have hk1 : ∀ k q, lab k = some q → w1.heap[k]? = w.heap[k]? := fun k q hl => hf.block k (h.base k q hl).2 id
  have hk : ∀ k q, lab k = some q → q ≠ .main → (w1.setCell ⟨b, 6, none⟩ v').heap[k]? = w.heap[k]? := fun k q hl hm => by
    rw [blk_set_ne (ne_of_lab hl h.lb hm)]; exact hk1 k q hl
  have hbl := (h.base b _ h.lb).2
  have hgb : ∀ i, v'.ownBlock = some i → i ≠ b := fun i hi e => by have := (hv i hi).1; omega
  have hF : Ft lab b := by unfold Ft; rw [h.lb]; rfl
  have hb1 : w1.heap[b]? = some (.cells (mainCells A D) 102 (0, 0)) := by rw [hk1 _ _ h.lb]; exact h.blk
  refine ⟨⟨?_, hml _ _ h.lb (by simp), h.names.same (hk _ _ h.lnm (by simp)), hml _ _ h.lnm (by simp), h.sure.same (hk _ _ h.lsm (by simp)), hml _ _ h.lsm (by simp), ?_, ?_, ?_, ?_⟩, ?_, ?_⟩
  · rw [blk_set hb1]; simp [mainCells]
  · exact (h.waiting.same (fun k hl => hk k _ hl (by simp))).relab (fun k hl => hml k _ hl (by simp))
  · refine ⟨⟨hrow.1, ?_⟩, fun g hg' => by unfold moveLab; rw [if_pos hg'.symm]⟩
    rcases hrow.2 with h2 | ⟨g, cap, cur, hv', hg', hh, r⟩
    · exact .inl h2
    · exact .inr ⟨g, cap, cur, hv', Nat.zero_le _, by rw [blk_set_ne (hgb g (by rw [hv']; rfl))]; exact hh, r⟩
  · intro i f hf'
    exact ((h.files i f hf').same (fun k p hl hp => hk k p hl (by rcases hp with rfl | rfl | rfl | rfl | rfl | rfl <;> simp))).relab
      (fun k p hl hp => hml k p hl (by rcases hp with rfl | rfl | rfl | rfl | rfl | rfl <;> simp))
  · intro k p hl
    have hs : (w1.setCell ⟨b, 6, none⟩ v').heap.size = w1.heap.size := by simp
    rw [hs]
    have hB : B ≤ w.heap.size := Nat.le_of_lt (Nat.lt_of_le_of_lt (h.base b _ h.lb).1 hbl)
    have hsz := hf.size
    unfold moveLab at hl
    by_cases e : some k = v'.ownBlock
    · have := hv k e.symm
      omega
    · rw [if_neg e] at hl
      by_cases e2 : lab k = some .fails
      · rw [if_pos e2] at hl; cases hl
      · rw [if_neg e2] at hl
        have := h.base k p hl
        omega
  · exact Frm.setCell (hf.mono (fun _ _ h => h.elim)) _ _ (fun _ => hF)
  · intro k hk' hl
    unfold Ft moveLab at hl
    by_cases e : some k = v'.ownBlock
    · have := (hv k e.symm).1
      omega
    · rw [if_neg e] at hl
      by_cases e2 : lab k = some .fails
      · unfold Ft; rw [e2]; rfl
      · rw [if_neg e2] at hl; exact hl
end Go.Proofs.YtkmmlfphcfcbgaaGreatDoor.Da
namespace Go.Proofs.YtkmmlfphcfcbgaaGreatDoor.Dw
open Go.RowKit Go.ChangeMaps Go.Proofs.YtkmmlfphcfcbgaaGreatDoor.Mp Go.Proofs.YtkmmlfphcfcbgaaGreatDoor.Dm Go.Proofs.YtkmmlfphcfcbgaaGreatDoor.Da Go.Shelf
set_option linter.unusedVariables false
set_option linter.unusedSimpArgs false
set_option linter.unusedSectionVars false
/-- Failures come out of a slice. -/
def FailsAt (w : World) (v : Value) (fs : List (Int × Int)) : Prop := ∃ p c, v = .slice p fs.length c ∧ ∀ j u, (fs.flatMap failCells)[j]? = some u → ∃ a, p = some a ∧ w.cell? (a.add j) = some u
theorem FailsAt.frm {F : Nat → Prop} {w w' : World} {v : Value} {fs : List (Int × Int)} (h : FailsAt w v fs) (hf : Frm F w w') (hF : ∀ p n c, v = .slice (some p) n c → ¬ F p.block) : FailsAt w' v fs := by
  obtain ⟨p, c, rfl, h⟩ := h
  refine ⟨p, c, rfl, fun j u hu => ?_⟩
  obtain ⟨a, rfl, hc⟩ := h j u hu
  refine ⟨a, rfl, ?_⟩
  have hl := World.block_lt_of_cell? w _ hc
  rw [← hc]
  have hb : (a.add j).block = a.block := by unfold Addr.add; split <;> rfl
  exact World.cell?_of_block (hf.block _ hl (by rw [hb]; exact hF a _ _ rfl))
theorem fails_len (fs : List (Int × Int)) : (fs.flatMap failCells).length = fs.length * 2 := by
  induction fs with
  | nil => rfl
  | cons p l ih => simp only [List.flatMap_cons, List.length_append, ih, List.length_cons, failCells, List.length_nil]; omega
theorem fails_one (fs : List (Int × Int)) : ∀ u ∈ fs.flatMap failCells, u.oneCell' = true := by
  intro u hu
  obtain ⟨p, _, hp⟩ := List.mem_flatMap.1 hu
  simp only [failCells, List.mem_cons, List.not_mem_nil, or_false] at hp
  rcases hp with rfl | rfl <;> rfl
set_option maxHeartbeats 1000000 in
set_option maxRecDepth 100000 in
/-- A clone of failures: new memory. -/
theorem cloneF_calls (v : Value) (fs : List (Int × Int)) (w : World) (hv : FailsAt w v fs) (hn : fs.length ≤ 8796093022208) :
    Calls Tryz.prog 85 #[v] w fun e w' => ∃ p c, e = .returned (.slice p fs.length c) ∧ w'.ownsRow w.heap.size 159 2 (.slice p fs.length c) fs.length (fs.flatMap failCells) ∧ Frm (fun _ => False) w w' := by
  obtain ⟨p, c, rfl, hc⟩ := hv
  cases p with
  | none =>
    have h0 : fs = [] := by
      cases fs with
      | nil => rfl
      | cons q l =>
        obtain ⟨a, ha, _⟩ := hc 0 _ rfl
        cases ha
    subst h0
    refine (AnyE.slices_Clone_nil cloneF_lays _ c w).mono ?_
    rintro e w' ⟨rfl, rfl⟩
    exact ⟨_, _, rfl, ⟨by simp, .inl ⟨rfl, rfl⟩⟩, Frm.refl _ _⟩
  | some a =>
    obtain ⟨i0, hi0, hz0, hz1, hz2⟩ := info_parts failInfo
    have hmx : maxLen = 9223372036854775807 := by decide
    have HC : Hid (∀ j u, (fs.flatMap failCells)[j]? = some u → w.cell? (a.add j) = some u) := fun j u hu => by
      obtain ⟨a', e, h⟩ := hc j u hu
      cases e; exact h
    have q22 : ∀ (w : World) (a : Option Addr) (n c n' c' : Nat), (binOp .eql 84 (.slice a n c) (.slice none n' c')).run Tryz.prog w = .ok (.bool a.isNone) w := fun w a n c n' c' => Lib.run_eql_slice_nil w _ _ a n c n' c' Tryz.underlying84
    clear hc
    go_enter Tryz.func85, Tryz.ntmps85
    go_wp2_with (at_builtin; refine wpList_append_own _ rfl _ _ 84 rfl w.heap.size 159 i0 _ 2 16 Tryz.underlying84 hi0 hz0 hz1 hz2 rfl (by omega) _ _ _ rfl (World.ownsRow_made w #[] 0 (Nat.le_refl _) (Nat.zero_le _) (by simp)) a fs.length c (fs.flatMap failCells) rfl ?qc1 ?qc2 ?qc3 ?qc4 ?qc5 ?qc6 ?_)
    case qc1 => exact fails_len fs
    case qc2 =>
      intro j u hj
      exact Lib.cell?_alloc_some _ (HC.out j u hj)
    case qc3 => exact fails_one fs
    case qc4 => rw [Nat.zero_add]; omega
    case qc5 => rw [Nat.zero_add]; omega
    case qc6 => simp
    intro v' w1 hown hgrow hnil
    have hsh : ∃ p c, v' = .slice p fs.length c := by
      rcases hown.2 with ⟨h1, h2⟩ | ⟨g, cap, cur, h1, _⟩
      · exact ⟨_, _, by rw [h1, show fs.length = 0 by omega]⟩
      · exact ⟨_, _, h1⟩
    obtain ⟨p', c', rfl⟩ := hsh
    go_wp2
    go_ret
    refine ⟨p', c', rfl, by simpa using hown, ?_⟩
    exact ((Frm.refl _ w).alloc _).grown hgrow (by intro k hk; simp [Value.ownBlock] at hk; omega)
set_option maxHeartbeats 1000000 in
set_option maxRecDepth 100000 in
theorem arm_calls {B : Nat} {w : World} {b : Nat} {A : Adr} {lab : Nat → Option Lb} {D : Disk} (h : DiskAt B w b A lab D) (v : Value) (fs : List (Int × Int)) (cut : Int) (hv : FailsAt w v fs) (hn : fs.length ≤ 8796093022208) :
    Calls Tryz.prog 36 #[dptr b, v, .int .i64 cut] w fun e w' => e = .returned (.tuple #[]) ∧ Ext B b lab w w' (D.arm fs cut) := by
  have c8 : w.cell? ⟨b, 8, none⟩ = some (.bool D.off) := main_cell h.blk rfl
  obtain ⟨p, c, rfl, hc⟩ := id hv
  have KEY := Lib.hid (cloneF_calls (.slice p fs.length c) fs w hv hn)
  have H := Lib.hid h
  cases hoff : D.off with
  | true =>
    have e1 : D.arm fs cut = D := by unfold Disk.arm; rw [if_pos hoff]
    rw [e1]
    rw [hoff] at c8
    clear e1 h hv hc KEY hoff
    unfold dptr
    go_enter Tryz.func36, Tryz.ntmps36
    go_wp2
    refine bodyPost_ret (results_none rfl _ _ _) rfl ?_
    exact ⟨rfl, Ext.refl H.out⟩
  | false =>
    have e1 : D.arm fs cut = { D with fails := fs, cut := cut, since := 0 } := by unfold Disk.arm; rw [if_neg (by rw [hoff]; simp)]
    rw [e1]
    rw [hoff] at c8
    clear e1 h hv hc hoff
    unfold dptr
    go_enter Tryz.func36, Tryz.ntmps36
    go_wp2_with (first | (go_at_call 85; (with_reducible refine KEY.out.mono ?_); rintro e w1 ⟨p1, c1, rfl, hr1, hf1⟩; obtain ⟨g1, g2, g3⟩ := H.out.setFails hr1 hf1; have hb1 := (hf1.block b (Da.blk_lt H.out.blk) id).trans H.out.blk; have x5 := cell_of (i := 5) hb1 rfl; have x6 := cell_of (i := 6) hb1 rfl; have x7 := cell_of (i := 7) hb1 rfl; have y5 := frozen_of (i := 5) hb1; have y6 := frozen_of (i := 6) hb1; have y7 := frozen_of (i := 7) hb1; clear hb1; have HG := Lib.hid (And.intro g1 (And.intro g2 g3)); clear hr1 g1 g2 g3))
    go_end0
    obtain ⟨g1, g2, g3⟩ := HG.out
    have hl : ∀ k, k < w1.heap.size → k ≠ b → (((w1.setCell ⟨b, 6, none⟩ (.slice p1 fs.length c1)).setCell ⟨b, 7, none⟩ (.int .i64 cut)).setCell ⟨b, 5, none⟩ (.int .i64 0)).heap[k]? = (w1.setCell ⟨b, 6, none⟩ (.slice p1 fs.length c1)).heap[k]? := fun k _ hk => by
      rw [blk_set_ne hk, blk_set_ne hk]
    have gg := g1.scalar (D' := { D with fails := fs, cut := cut, since := 0 }) (by rw [blk_set (blk_set g1.blk)]; simp [mainCells]) (fun k hk hne => hl k (by simpa using hk) hne) (by simp) rfl rfl rfl rfl rfl
    refine ⟨rfl, _, _, gg, (g2.setCell _ _ (fun _ => ?_)).setCell _ _ (fun _ => ?_), g3⟩
    · unfold Ft; rw [H.out.lb]; rfl
    · unfold Ft; rw [H.out.lb]; rfl
end Go.Proofs.YtkmmlfphcfcbgaaGreatDoor.Dw

/- One file of a disk in memory turns while an image is loaded; bytes cloned from anywhere. -/
namespace Go.Proofs.YtkmmlfphcfcbgaaGreatDoor.Da
open Go.RowKit Go.ChangeMaps Go.Proofs.YtkmmlfphcfcbgaaGreatDoor.Mp Go.Proofs.YtkmmlfphcfcbgaaGreatDoor.Dm Go.Proofs.YtkmmlfphcfcbgaaGreatDoor.Dw
set_option linter.unusedVariables false
set_option linter.unusedSimpArgs false
set_option linter.unusedSectionVars false
section
variable {B : Nat} {w w' : World} {b : Nat} {A : Adr} {lab lab' : Nat → Option Lb} {D : Disk}
/-- A disk's own blocks lie above. -/
theorem DiskAt.high (h : DiskAt B w b A lab D) {w0 : World} (h0 : Frm (fun _ => False) w0 w) (hB : w0.heap.size ≤ B) {w' : World} (hf : Frm (Ft lab) w w') : Frm (fun _ => False) w0 w' :=
  h0.trans hf fun k hk hl => by
    obtain ⟨p, hp⟩ := Option.isSome_iff_exists.1 hl
    have := (h.base k p hp).1
    omega
end
end Go.Proofs.YtkmmlfphcfcbgaaGreatDoor.Da
namespace Go.Proofs.YtkmmlfphcfcbgaaGreatDoor.Dw
open Go.RowKit Go.ChangeMaps Go.Proofs.YtkmmlfphcfcbgaaGreatDoor.Mp Go.Proofs.YtkmmlfphcfcbgaaGreatDoor.Dm Go.Proofs.YtkmmlfphcfcbgaaGreatDoor.Da Go.Shelf
set_option linter.unusedVariables false
set_option linter.unusedSimpArgs false
set_option linter.unusedSectionVars false
/-- Bytes lie in a slice, wherever. -/
def BytesAt (w : World) (v : Value) (xs : List Int) : Prop := ∃ p c, v = .slice p xs.length c ∧ ∀ j u, (u8s xs)[j]? = some u → ∃ a, p = some a ∧ w.cell? (a.add j) = some u
end Go.Proofs.YtkmmlfphcfcbgaaGreatDoor.Dw

/- An image's files, read. -/
namespace Go.Proofs.YtkmmlfphcfcbgaaGreatDoor.Dw
open Go.RowKit Go.ChangeMaps Go.Proofs.YtkmmlfphcfcbgaaGreatDoor.Mp Go.Proofs.YtkmmlfphcfcbgaaGreatDoor.Dm Go.Proofs.YtkmmlfphcfcbgaaGreatDoor.Da
open Go.Proofs.YtkmmlfphcfcbgaaGreatDoorW.PrintWords
set_option linter.unusedVariables false
end Go.Proofs.YtkmmlfphcfcbgaaGreatDoor.Dw
