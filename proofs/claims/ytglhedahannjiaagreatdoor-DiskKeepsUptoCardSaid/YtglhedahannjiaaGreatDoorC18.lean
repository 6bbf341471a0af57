/- A part of the proof of diskDown_holds: Fd0, Es. No condition. -/
import Derived.Test.YtglhedahannjiaaGreatDoorC17

/- One file of a disk in memory turns while an image is loaded; bytes cloned from anywhere. -/
namespace Go.Proofs.YtglhedahannjiaaGreatDoor.Da
open Go.RowKit Go.ChangeMaps Go.Proofs.YtglhedahannjiaaGreatDoor.Mp Go.Proofs.YtglhedahannjiaaGreatDoor.Dm Go.Proofs.YtglhedahannjiaaGreatDoor.Dw
set_option linter.unusedVariables false
set_option linter.unusedSimpArgs false
set_option linter.unusedSectionVars false
section
variable {B : Nat} {w w' : World} {b : Nat} {A : Adr} {lab lab' : Nat → Option Lb} {D : Disk}
theorem withFile_at (A : Adr) (i : Nat) (a : FAdr) : (A.withFile i a).fa i = a := by unfold Adr.withFile; simp
theorem withFile_self (A : Adr) (i : Nat) : A.withFile i (A.fa i) = A := by
  unfold Adr.withFile
  have : (fun j => if j = i then A.fa i else A.fa j) = A.fa := funext fun j => by by_cases h : j = i <;> simp [h]
  rw [this]
/-- setFile, the addresses told. -/
theorem DiskAt.fileX (h : DiskAt B w b A lab D) {i : Nat} {f : FileS} (hf : D.files[i]? = some f) (g : FileS → FileS) {a' : FAdr} (hfile : FileAt w' lab' i a' (g f)) (hfb : a'.fb = (A.fa i).fb)
    (hk : ∀ k p, lab k = some p → ¬ isOf i p → w'.heap[k]? = w.heap[k]? ∧ lab' k = some p) (hn : ∀ k p, lab' k = some p → B ≤ k ∧ k < w'.heap.size) :
    DiskAt B w' b (A.withFile i a') lab' (D.modify i g) := by
  have hfp : ∀ j, fptr (A.withFile i a') j = fptr A j := by
    intro j
    unfold fptr Adr.withFile
    simp only []
    by_cases hj : j = i
    · rw [if_pos hj, hj, hfb]
    · rw [if_neg hj]
  have hlen : (D.modify i g).files.length = D.files.length := by unfold Disk.modify; simp
  refine ⟨?_, (hk _ _ h.lb (by simp [isOf])).2, ?_, (hk _ _ h.lnm (by simp [isOf])).2, ?_, (hk _ _ h.lsm (by simp [isOf])).2, ?_, ?_, ?_, hn⟩
  · rw [(hk _ _ h.lb (by simp [isOf])).1, h.blk]
    unfold mainCells
    rw [hlen]; rfl
  · exact (h.names.same (hk _ _ h.lnm (by simp [isOf])).1).congr (fun p _ => hfp _)
  · exact (h.sure.same (hk _ _ h.lsm (by simp [isOf])).1).congr (fun p _ => hfp _)
  · have := (h.waiting.same (w' := w') (fun k hl => (hk k _ hl (by simp [isOf])).1)).relab (lab' := lab') (fun k hl => (hk k _ hl (by simp [isOf])).2)
    rw [← chg_congr (A' := A.withFile i a') (fun c _ p _ => hfp _)] at this
    exact this
  · exact (h.fails.same (w' := w') (fun k hl => (hk k _ hl (by simp [isOf])).1)).relab (fun k hl => (hk k _ hl (by simp [isOf])).2)
  · intro j fj hj
    by_cases e : j = i
    · subst e
      have : fj = g f := by
        unfold Disk.modify at hj
        simp only [List.getElem?_modify_eq, hf, Option.map_some] at hj
        exact (Option.some.inj hj).symm
      subst this
      rw [withFile_at]
      exact hfile
    · have hj' : D.files[j]? = some fj := by
        unfold Disk.modify at hj
        simpa [List.getElem?_modify, Ne.symm e] using hj
      have hno : ∀ p, (p = .file j ∨ p = .sd j ∨ p = .sb j ∨ p = .ad j ∨ p = .ab j ∨ p = .wb j) → ¬ isOf i p := by
        rintro p (rfl | rfl | rfl | rfl | rfl | rfl) <;> simp [isOf, e]
      have h1 := (h.files j fj hj').same (w' := w') (fun k p hl hp => (hk k p hl (hno p hp)).1)
      have h2 := h1.relab (lab' := lab') (fun k p hl hp => (hk k p hl (hno p hp)).2)
      have e : (A.withFile i a').fa j = A.fa j := by unfold Adr.withFile; simp [e]
      rw [e]
      exact h2
/-- A file's bytes as seen are another row, in new memory. -/
theorem DiskAt.setSeen (h : DiskAt B w b A lab D) {i : Nat} {f : FileS} (hf : D.files[i]? = some f) {w1 : World} (hf1 : Frm (fun _ => False) w w1) {v' : Value} {xs : List Int} (hrow : w1.ownsRow w.heap.size 5 1 v' xs.length (u8s xs)) :
    DiskAt B (w1.setCell ⟨(A.fa i).fb, 1, none⟩ v') b (A.withFile i { A.fa i with sd := v' }) (moveLab lab (.sd i) v'.ownBlock) (D.modify i fun f => { f with seen := xs }) ∧ Frm (Ft lab) w (w1.setCell ⟨(A.fa i).fb, 1, none⟩ v') := by
  have F := h.files i f hf
  have hv : ∀ g, v'.ownBlock = some g → w.heap.size ≤ g ∧ g < w1.heap.size := fun g hg => own_low hrow hg
  have hlow : ∀ j, v'.ownBlock = some j → lab j = some (.sd i) ∨ lab j = none := by
    intro j hj
    right
    rcases hl : lab j with _ | p
    · rfl
    · have := (h.base j p hl).2
      have := (hv j hj).1
      omega
  have hml : ∀ k q, lab k = some q → q ≠ .sd i → moveLab lab (.sd i) v'.ownBlock k = some q := fun k q hl hq => moveLab_other hq hl hlow
  have fblt := (h.base _ _ F.lfb).2
  have hk1 : ∀ k q, lab k = some q → q ≠ .file i → (w1.setCell ⟨(A.fa i).fb, 1, none⟩ v').heap[k]? = w.heap[k]? := fun k q hl hq => by
    rw [blk_set_ne (ne_of_lab hl F.lfb hq)]; exact hf1.block k (h.base k q hl).2 id
  refine ⟨h.fileX hf (fun f => { f with seen := xs }) ⟨?_, hml _ _ F.lfb (by simp), ?_, ?_, F.badSeen.same (hk1 _ _ F.lsb (by simp)), hml _ _ F.lsb (by simp), F.badSafe.same (hk1 _ _ F.lab_ (by simp)), hml _ _ F.lab_ (by simp), F.waits.same (hk1 _ _ F.lwb (by simp)), hml _ _ F.lwb (by simp)⟩ rfl ?_ ?_, ?_⟩
  · rw [blk_set ((hf1.block _ fblt id).trans F.blk)]; rfl
  · refine ⟨ownsRow.low (ownsRow.same hrow fun g hg => blk_set_ne (by have := (hv g hg).1; omega)), fun g hg => by unfold moveLab; rw [if_pos hg.symm]⟩
  · exact (F.safe.same (fun k hl => hk1 k _ hl (by simp))).relab (fun k hl => hml k _ hl (by simp))
  · intro k p hl hp
    exact ⟨hk1 k p hl (by rintro rfl; exact hp (by simp [isOf])), hml k p hl (by rintro rfl; exact hp (by simp [isOf]))⟩
  · intro k p hl
    have hB : B ≤ w.heap.size := Nat.le_of_lt (Nat.lt_of_le_of_lt (h.base b _ h.lb).1 (h.base b _ h.lb).2)
    have hsz := hf1.size
    simp only [World.size_setCell]
    unfold moveLab at hl
    by_cases e : some k = v'.ownBlock
    · have := hv k e.symm
      omega
    · rw [if_neg e] at hl
      by_cases e2 : lab k = some (.sd i)
      · rw [if_pos e2] at hl; cases hl
      · rw [if_neg e2] at hl
        have := h.base k p hl
        omega
  · exact Frm.setCell (hf1.mono (fun _ _ h => h.elim)) _ _ (fun _ => by unfold Ft; rw [F.lfb]; rfl)
/-- .. the same row holds other bytes. -/
theorem DiskAt.turnSeen (h : DiskAt B w b A lab D) {i : Nat} {f : FileS} (hf : D.files[i]? = some f) {w1 : World} (hg : w.grownBy w1 (A.fa i).sd.ownBlock) {xs : List Int} (hrow : w1.ownsRow 0 5 1 (A.fa i).sd xs.length (u8s xs)) :
    DiskAt B w1 b A lab (D.modify i fun f => { f with seen := xs }) ∧ Frm (Ft lab) w w1 := by
  have F := h.files i f hf
  have hk : ∀ k p, lab k = some p → p ≠ .sd i → w1.heap[k]? = w.heap[k]? := fun k p hl hp => hg.block k (h.base k p hl).2 (by
    intro e
    have := F.seen.lab k e.symm
    rw [hl] at this; exact hp (Option.some.inj this))
  refine ⟨?_, (Frm.of_grown hg).mono fun k _ e => ?_⟩
  · have := h.fileX hf (fun f => { f with seen := xs }) (w' := w1) (lab' := lab) (a' := A.fa i) ⟨(hk _ _ F.lfb (by simp)).trans F.blk, F.lfb, ⟨hrow, F.seen.lab⟩, F.safe.same (fun k hl => hk k _ hl (by simp)), F.badSeen.same (hk _ _ F.lsb (by simp)), F.lsb, F.badSafe.same (hk _ _ F.lab_ (by simp)), F.lab_, F.waits.same (hk _ _ F.lwb (by simp)), F.lwb⟩ rfl
      (fun k p hl hp => ⟨hk k p hl (by rintro rfl; exact hp (by simp [isOf])), hl⟩) (fun k p hl => ⟨(h.base k p hl).1, Nat.lt_of_lt_of_le (h.base k p hl).2 hg.size⟩)
    rwa [withFile_self] at this
  · unfold Ft; rw [F.seen.lab k e.symm]; rfl
/-- A file's set of bad sectors holds others. -/
theorem DiskAt.turnBad (h : DiskAt B w b A lab D) {i : Nat} {f : FileS} (hf : D.files[i]? = some f) {w1 : World} (hg : w.grownBy w1 (some (A.fa i).sb)) {S : Nat → Bool} (hS : SetAt w1 (A.fa i).sb S) :
    DiskAt B w1 b A lab (D.modify i fun f => { f with badSeen := S }) ∧ Frm (Ft lab) w w1 := by
  have F := h.files i f hf
  have hk : ∀ k p, lab k = some p → p ≠ .sb i → w1.heap[k]? = w.heap[k]? := fun k p hl hp => hg.block k (h.base k p hl).2 (fun e => ne_of_lab hl F.lsb hp (Option.some.inj e))
  refine ⟨?_, (Frm.of_grown hg).mono fun k _ e => ?_⟩
  · have := h.fileX hf (fun f => { f with badSeen := S }) (w' := w1) (lab' := lab) (a' := A.fa i) ⟨(hk _ _ F.lfb (by simp)).trans F.blk, F.lfb, F.seen.same (fun k hl => hk k _ hl (by simp)), F.safe.same (fun k hl => hk k _ hl (by simp)), hS, F.lsb, F.badSafe.same (hk _ _ F.lab_ (by simp)), F.lab_, F.waits.same (hk _ _ F.lwb (by simp)), F.lwb⟩ rfl
      (fun k p hl hp => ⟨hk k p hl (by rintro rfl; exact hp (by simp [isOf])), hl⟩) (fun k p hl => ⟨(h.base k p hl).1, Nat.lt_of_lt_of_le (h.base k p hl).2 hg.size⟩)
    rwa [withFile_self] at this
  · unfold Ft; rw [Option.some.inj e, F.lsb]; rfl
/-- What is safe is as what is seen, in new memory. -/
theorem DiskAt.setSafe (h : DiskAt B w b A lab D) {i : Nat} {f : FileS} (hf : D.files[i]? = some f) {w1 : World} (hb : Below w.heap.size w w1) {v' : Value} {m' : Nat} (hrow : w1.ownsRow w.heap.size 5 1 v' f.seen.length (u8s f.seen)) (hS : SetAt w1 m' f.badSeen)
    (hm1 : w.heap.size ≤ m') (hm2 : m' < w1.heap.size) (hne : v'.ownBlock ≠ some m') :
    DiskAt B ((w1.setCell ⟨(A.fa i).fb, 3, none⟩ v').setCell ⟨(A.fa i).fb, 4, none⟩ (.map (some m'))) b (A.withFile i { A.fa i with ad := v', ab := m' }) (syncLab lab i v'.ownBlock m') (D.modify i fun f => { f with safe := f.seen, badSafe := f.badSeen }) ∧
      Frm (Ft lab) w ((w1.setCell ⟨(A.fa i).fb, 3, none⟩ v').setCell ⟨(A.fa i).fb, 4, none⟩ (.map (some m'))) := by
  have F := h.files i f hf
  have hsz : w.heap.size ≤ w1.heap.size := hb.size
  have fblt : (A.fa i).fb < w.heap.size := (h.base _ _ F.lfb).2
  have hnew : ∀ k, w.heap.size ≤ k → ((w1.setCell ⟨(A.fa i).fb, 3, none⟩ v').setCell ⟨(A.fa i).fb, 4, none⟩ (.map (some m'))).heap[k]? = w1.heap[k]? := by
    intro k h1
    rw [blk_set_ne (by omega), blk_set_ne (by omega)]
  have hold : ∀ k p, lab k = some p → p ≠ .file i → ((w1.setCell ⟨(A.fa i).fb, 3, none⟩ v').setCell ⟨(A.fa i).fb, 4, none⟩ (.map (some m'))).heap[k]? = w.heap[k]? := by
    intro k p hl h1
    have n1 : k ≠ (A.fa i).fb := ne_of_lab hl F.lfb h1
    rw [blk_set_ne n1, blk_set_ne n1, hb.block k (h.base k p hl).2]
  have hgnew : ∀ g, v'.ownBlock = some g → w.heap.size ≤ g ∧ g < w1.heap.size := fun g e => ownsRow.at hrow e
  have hlabOld : ∀ k p, lab k = some p → p ≠ .ad i → p ≠ .ab i → syncLab lab i v'.ownBlock m' k = some p := by
    intro k p hl h1 h2
    have hlt := (h.base k p hl).2
    unfold syncLab
    rw [if_neg (by intro e; have := (hgnew k e.symm).1; omega), if_neg (by omega), if_neg (by rw [hl]; simp [h1, h2]), hl]
  refine ⟨h.fileX hf (fun f => { f with safe := f.seen, badSafe := f.badSeen }) (a' := { A.fa i with ad := v', ab := m' }) (lab' := syncLab lab i v'.ownBlock m') ⟨?_, hlabOld _ _ F.lfb (by simp) (by simp), ?_, ?_, F.badSeen.same (hold _ _ F.lsb (by simp)), hlabOld _ _ F.lsb (by simp) (by simp), hS.same (hnew _ hm1), ?_, F.waits.same (hold _ _ F.lwb (by simp)), hlabOld _ _ F.lwb (by simp) (by simp)⟩ rfl ?_ ?_, ?_⟩
  · have : w1.heap[(A.fa i).fb]? = some _ := (hb.block _ fblt).trans F.blk
    rw [blk_set (blk_set this)]
    rfl
  · exact (F.seen.same (fun k hl => hold k _ hl (by simp))).relab (fun k hl => hlabOld k _ hl (by simp) (by simp))
  · refine ⟨ownsRow.low (ownsRow.same hrow (fun g e => hnew g (hgnew g e).1)), fun g e => ?_⟩
    unfold syncLab; rw [if_pos e.symm]
  · show syncLab lab i v'.ownBlock m' m' = _
    unfold syncLab
    rw [if_neg (fun e => hne e.symm), if_pos rfl]
  · intro k p hl hp
    have hno : p ≠ .file i ∧ p ≠ .ad i ∧ p ≠ .ab i := by
      refine ⟨?_, ?_, ?_⟩ <;> (rintro rfl; exact hp (by simp [isOf]))
    exact ⟨hold k p hl hno.1, hlabOld k p hl hno.2.1 hno.2.2⟩
  · intro k p hl
    have hB : B ≤ w.heap.size := Nat.le_of_lt (Nat.lt_of_le_of_lt (h.base b _ h.lb).1 (h.base b _ h.lb).2)
    simp only [World.size_setCell]
    unfold syncLab at hl
    by_cases e1 : some k = v'.ownBlock
    · have := hgnew k e1.symm; omega
    · rw [if_neg e1] at hl
      by_cases e2 : k = m'
      · omega
      · rw [if_neg e2] at hl
        by_cases e3 : lab k = some (.ad i) ∨ lab k = some (.ab i)
        · rw [if_pos e3] at hl; cases hl
        · rw [if_neg e3] at hl
          have := h.base k p hl; omega
  · exact ((Frm.of_below hb _).setCell _ _ (fun _ => by unfold Ft; rw [F.lfb]; rfl)).setCell _ _ (fun _ => by unfold Ft; rw [F.lfb]; rfl)
/-- The map of the safe names has turned. -/
theorem DiskAt.setSure (h : DiskAt B w b A lab D) {l : List (Name × Nat)} (hm : NamesAt w' A.sm l A) (hg : w.grownBy w' (some A.sm)) :
    DiskAt B w' b A lab { D with sure := l } ∧ Frm (Ft lab) w w' := by
  have hk : ∀ k p, lab k = some p → p ≠ .sure → w'.heap[k]? = w.heap[k]? := fun k p hl hp => hg.block k (h.base k p hl).2 (by
    intro e; exact ne_of_lab hl h.lsm hp (Option.some.inj e))
  refine ⟨⟨?_, h.lb, h.names.same (hk _ _ h.lnm (by simp)), h.lnm, hm, h.lsm, h.waiting.same (fun k hl => hk k _ hl (by simp)), h.fails.same (fun k hl => hk k _ hl (by simp)), ?_, ?_⟩, ?_⟩
  · rw [hk _ _ h.lb (by simp)]; exact h.blk
  · intro i f hf
    exact (h.files i f hf).same (fun k p hl hp => hk k p hl (by rcases hp with rfl | rfl | rfl | rfl | rfl | rfl <;> simp))
  · exact fun k p hl => ⟨(h.base k p hl).1, Nat.lt_of_lt_of_le (h.base k p hl).2 hg.size⟩
  · exact (Frm.of_grown hg).mono (fun k _ e => by unfold Ft; rw [Option.some.inj e, h.lsm]; rfl)
theorem DiskAt.lower (h : DiskAt B w b A lab D) {B' : Nat} (hB : B' ≤ B) : DiskAt B' w b A lab D :=
  ⟨h.blk, h.lb, h.names, h.lnm, h.sure, h.lsm, h.waiting, h.fails, h.files, fun k p hl => ⟨Nat.le_trans hB (h.base k p hl).1, (h.base k p hl).2⟩⟩
/-- A disk's own blocks lie above. -/
theorem DiskAt.high (h : DiskAt B w b A lab D) {w0 : World} (h0 : Frm (fun _ => False) w0 w) (hB : w0.heap.size ≤ B) {w' : World} (hf : Frm (Ft lab) w w') : Frm (fun _ => False) w0 w' :=
  h0.trans hf fun k hk hl => by
    obtain ⟨p, hp⟩ := Option.isSome_iff_exists.1 hl
    have := (h.base k p hp).1
    omega
end
end Go.Proofs.YtglhedahannjiaaGreatDoor.Da
namespace Go.Proofs.YtglhedahannjiaaGreatDoor.Dw
open Go.RowKit Go.ChangeMaps Go.Proofs.YtglhedahannjiaaGreatDoor.Mp Go.Proofs.YtglhedahannjiaaGreatDoor.Dm Go.Proofs.YtglhedahannjiaaGreatDoor.Da Go.Shelf
set_option linter.unusedVariables false
set_option linter.unusedSimpArgs false
set_option linter.unusedSectionVars false
/-- Bytes lie in a slice, wherever. -/
def BytesAt (w : World) (v : Value) (xs : List Int) : Prop := ∃ p c, v = .slice p xs.length c ∧ ∀ j u, (u8s xs)[j]? = some u → ∃ a, p = some a ∧ w.cell? (a.add j) = some u
theorem u8_one (xs : List Int) : ∀ u ∈ u8s xs, u.oneCell' = true := by
  intro u hu
  obtain ⟨x, _, rfl⟩ := List.mem_map.1 hu
  rfl
set_option maxHeartbeats 1000000 in
set_option maxRecDepth 100000 in
/-- A clone of bytes: new memory. -/
theorem cloneB_any (v : Value) (xs : List Int) (w : World) (hv : BytesAt w v xs) (hn : xs.length ≤ 140737488355328) :
    Calls Tryz.prog 69 #[v] w fun e w' => ∃ p c, e = .returned (.slice p xs.length c) ∧ w'.ownsRow w.heap.size 5 1 (.slice p xs.length c) xs.length (u8s xs) ∧ Frm (fun _ => False) w w' := by
  obtain ⟨p, c, rfl, hc⟩ := hv
  cases p with
  | none =>
    have h0 : xs = [] := by
      cases xs with
      | nil => rfl
      | cons q l =>
        obtain ⟨a, ha, _⟩ := hc 0 _ rfl
        cases ha
    subst h0
    refine (AnyE.slices_Clone_nil cloneB_lays _ c w).mono ?_
    rintro e w' ⟨rfl, rfl⟩
    exact ⟨_, _, rfl, ⟨by simp [u8s], .inl ⟨rfl, rfl⟩⟩, Frm.refl _ _⟩
  | some a =>
    obtain ⟨i0, hi0, hz0, hz1, hz2⟩ := info_parts byteInfo
    have hmx : maxLen = 9223372036854775807 := by decide
    have HC : Hid (∀ j u, (u8s xs)[j]? = some u → w.cell? (a.add j) = some u) := fun j u hu => by
      obtain ⟨a', e, h⟩ := hc j u hu
      cases e; exact h
    have q22 : ∀ (w : World) (a : Option Addr) (n c n' c' : Nat), (binOp .eql 22 (.slice a n c) (.slice none n' c')).run Tryz.prog w = .ok (.bool a.isNone) w := fun w a n c n' c' => Lib.run_eql_slice_nil w _ _ a n c n' c' Tryz.underlying22
    clear hc
    go_enter Tryz.func69, Tryz.ntmps69
    go_wp2_with (at_builtin; refine wpList_append_own _ rfl _ _ 22 rfl w.heap.size 5 i0 _ 1 1 Tryz.underlying22 hi0 hz0 hz1 hz2 rfl (by omega) _ _ _ rfl (World.ownsRow_made w #[] 0 (Nat.le_refl _) (Nat.zero_le _) (by simp)) a xs.length c (u8s xs) rfl ?qc1 ?qc2 ?qc3 ?qc4 ?qc5 ?qc6 ?_)
    case qc1 => simp [u8s]
    case qc2 =>
      intro j u hj
      exact Lib.cell?_alloc_some _ (HC.out j u hj)
    case qc3 => exact u8_one xs
    case qc4 => rw [Nat.zero_add]; omega
    case qc5 => rw [Nat.zero_add]; omega
    case qc6 => simp
    intro v' w1 hown hgrow hnil
    have hsh : ∃ p c, v' = .slice p xs.length c := by
      rcases hown.2 with ⟨h1, h2⟩ | ⟨g, cap, cur, h1, _⟩
      · exact ⟨_, _, by rw [h1, show xs.length = 0 by omega]⟩
      · exact ⟨_, _, h1⟩
    obtain ⟨p', c', rfl⟩ := hsh
    go_wp2
    go_ret
    refine ⟨p', c', rfl, by simpa using hown, ?_⟩
    exact ((Frm.refl _ w).alloc _).grown hgrow (by intro k hk; simp [Value.ownBlock] at hk; omega)
set_option maxRecDepth 100000 in
/-- span, for greater files. -/
theorem span_big (k n fr T : Nat) (hk : k ≤ 8796093022208) (hn : n ≤ 140737488355328) (hfr : k * 512 = fr) (hT : min ((k + 1) * 512) n = T) (w : World) :
    Calls Tryz.prog 71 #[.int .i64 k, .int .i64 n] w fun e w' => e = .returned (.tuple #[.int .i64 fr, .int .i64 T]) ∧ w' = w := by
  have e1 : ((k * 512 : Nat) : Int) = (k : Int) * 512 := by omega
  have e2 : ((min ((k + 1) * 512) n : Nat) : Int) = min (((k : Int) + 1) * 512) (n : Int) := by omega
  rw [← hfr, ← hT]
  have E := Lib.hid (And.intro e1 e2)
  clear e1 e2 hfr hT
  go_enter Tryz.func71, Tryz.ntmps71
  go_wp2
  go_ret2
  exact ⟨by rw [E.out.1, E.out.2]; rfl, rfl⟩
end Go.Proofs.YtglhedahannjiaaGreatDoor.Dw

/- An image's files, read. -/
namespace Go.Proofs.YtglhedahannjiaaGreatDoor.Dw
open Go.RowKit Go.ChangeMaps Go.Proofs.YtglhedahannjiaaGreatDoor.Mp Go.Proofs.YtglhedahannjiaaGreatDoor.Dm Go.Proofs.YtglhedahannjiaaGreatDoor.Da
open Go.Proofs.YtglhedahannjiaaGreatDoorW.PrintWords
set_option linter.unusedVariables false
theorem img_file {w : World} {base : Nat} {ok : Nat → Prop} {v : Value} {l : List Plain} (h : fileK.R 41 w base ok v l) (j : Nat) (p : Plain) (hp : l[j]? = some p) :
    ∃ g c dv bv, v = .slice (some ⟨g, 0, none⟩) l.length c ∧ l.length ≤ c ∧ w.cell? ⟨g, j * 3, none⟩ = some (.string p.name) ∧ w.cell? ⟨g, j * 3 + 1, none⟩ = some dv ∧ w.cell? ⟨g, j * 3 + 2, none⟩ = some bv ∧
      w.ownsRow base 5 1 dv p.data.length (u8s p.data) ∧ w.ownsRow base 3 1 bv p.bad.length (i64s p.bad) := by
  obtain ⟨h0, inner, ho, hr⟩ := h
  have hj : j < l.length := (List.getElem?_eq_some_iff.1 hp).1
  obtain ⟨g, c, rfl, h1, h2, h3⟩ := row_shape ho (by omega)
  obtain ⟨c0, c1, hc, e0, c2, c3, rfl, ⟨dv, rfl, hd⟩, ⟨bv, rfl, hb⟩⟩ := hr.2 j p hp
  have e0 : c0 = [.string p.name] := e0
  subst e0
  have hk : ∀ i u, (([.string p.name] ++ ([dv] ++ [bv]) : List Value))[i]? = some u → w.cell? ⟨g, j * 3 + i, none⟩ = some u := by
    intro i u hu
    rw [← hc, List.getElem?_take] at hu
    split at hu
    · rw [List.getElem?_drop] at hu
      have := ho.cells (g := g) rfl (j * 3 + i) u hu
      rw [add_off, Nat.zero_add] at this
      exact this
    · cases hu
  exact ⟨g, c, dv, bv, rfl, h1, hk 0 _ rfl, hk 1 _ rfl, hk 2 _ rfl, Kd.own_of_R hd, Kd.own_of_R hb⟩
end Go.Proofs.YtglhedahannjiaaGreatDoor.Dw
