/- A part of the proof of segmentMemoryUpto_holds: Dt1, Dt, Ed, Eh, Sc, Sk. No condition. -/
import Derived.Maps.AppendAt
import Derived.Lib.SliceRun
import Derived.Laws.CopyOwn
import Derived.Laws.BitsAllLaws
import Derived.Test.YtkmmlfphcfcbgaaGreatDoorC05

/- Bytes behind a file's: what the memory is then. -/
namespace Go.Proofs.YtkmmlfphcfcbgaaGreatDoor.Da
open Go.RowKit Go.ChangeMaps Go.Proofs.YtkmmlfphcfcbgaaGreatDoor.Mp Go.Proofs.YtkmmlfphcfcbgaaGreatDoor.Dm
set_option linter.unusedVariables false
set_option linter.unusedSimpArgs false
set_option linter.unusedSectionVars false
section
variable {B : Nat} {w : World} {b : Nat} {A : Adr} {lab : Nat → Option Lb} {D : Disk}
theorem DiskAt.addFile (h : DiskAt B w b A lab D) {i : Nat} {f : FileS} (hf : D.files[i]? = some f) {w1 w3 : World} {v' : Value} {xs : List Int} {bs ws : Nat → Bool} (hrow : w1.ownsRow 0 5 1 v' xs.length (u8s xs)) (hg : w.grownBy w1 (A.fa i).sd.ownBlock)
    (hat : v'.ownBlock = (A.fa i).sd.ownBlock ∨ ∀ g, v'.ownBlock = some g → w.heap.size ≤ g ∧ g < w1.heap.size) (hfr : Frm (fun x => x = (A.fa i).sb ∨ x = (A.fa i).wb) (w1.setCell ⟨(A.fa i).fb, 1, none⟩ v') w3) (hS1 : SetAt w3 (A.fa i).sb bs) (hS2 : SetAt w3 (A.fa i).wb ws)
    (g : FileS → FileS) (hgf : g f = { f with seen := xs, badSeen := bs, waits := ws }) : Ext B b lab w w3 (D.modify i g) := by
  have F := h.files i f hf
  have hsz : w.heap.size ≤ w1.heap.size := hg.size
  have hs3 : w1.heap.size ≤ w3.heap.size := by have := hfr.size; simpa using this
  have hB : B ≤ w.heap.size := Nat.le_of_lt (Nat.lt_of_le_of_lt (h.base b _ h.lb).1 (h.base b _ h.lb).2)
  have hlow : ∀ k, v'.ownBlock = some k → lab k = some (.sd i) ∨ lab k = none := by
    intro k hk
    rcases hat with h1 | h1
    · exact .inl (F.seen.lab k (by rw [← h1]; exact hk))
    · right
      rcases hl : lab k with _ | p
      · rfl
      · have := (h.base k p hl).2
        have := (h1 k hk).1
        omega
  have hml : ∀ k q, lab k = some q → q ≠ .sd i → moveLab lab (.sd i) v'.ownBlock k = some q := fun k q hl hq => moveLab_other hq hl hlow
  have hold : ∀ k p, lab k = some p → p ≠ .sd i → p ≠ .file i → p ≠ .sb i → p ≠ .wb i → w3.heap[k]? = w.heap[k]? := by
    intro k p hl h1 h2 h3 h4
    have hlt := (h.base k p hl).2
    rw [hfr.block k (by simp; omega) (fun e => e.elim (ne_of_lab hl F.lsb h3) (ne_of_lab hl F.lwb h4)), blk_set_ne (ne_of_lab hl F.lfb h2), hg.block k hlt]
    intro e
    have := F.seen.lab k e.symm
    rw [hl] at this; exact h1 (Option.some.inj this)
  refine h.setFile hf g (a' := { A.fa i with sd := v' }) (lab' := moveLab lab (.sd i) v'.ownBlock) ?_ rfl ?_ ?_ ?_ ?_
  · rw [hgf]
    refine ⟨?_, hml _ _ F.lfb (by simp), ?_, ?_, hS1, hml _ _ F.lsb (by simp), ?_, hml _ _ F.lab_ (by simp), hS2, hml _ _ F.lwb (by simp)⟩
    · have hb1 : w1.heap[(A.fa i).fb]? = _ := (hg.block _ (h.base _ _ F.lfb).2 (by intro e; have := F.seen.lab _ e.symm; rw [F.lfb] at this; cases this)).trans F.blk
      show w3.heap[(A.fa i).fb]? = _
      rw [hfr.block _ (by have := (h.base _ _ F.lfb).2; simp; omega) (fun e => e.elim (ne_of_lab F.lfb F.lsb (by simp)) (ne_of_lab F.lfb F.lwb (by simp))), blk_set hb1]
      rfl
    · refine ⟨ownsRow.same hrow ?_, fun k hk => by unfold moveLab; rw [if_pos hk.symm]⟩
      intro k hk
      have hkl : k < w1.heap.size := (ownsRow.at hrow hk).2
      have hne : k ≠ (A.fa i).fb := by
        rintro rfl
        rcases hlow _ hk with e | e <;> rw [F.lfb] at e <;> cases e
      have hne2 : ¬ (k = (A.fa i).sb ∨ k = (A.fa i).wb) := by
        rintro (rfl | rfl)
        · rcases hlow _ hk with e | e <;> rw [F.lsb] at e <;> cases e
        · rcases hlow _ hk with e | e <;> rw [F.lwb] at e <;> cases e
      rw [hfr.block k (by simpa using hkl) hne2, blk_set_ne hne]
    · exact (F.safe.same (w' := w3) (fun k hl => hold k _ hl (by simp) (by simp) (by simp) (by simp))).relab (fun k hl => hml k _ hl (by simp))
    · exact F.badSafe.same (hold _ _ F.lab_ (by simp) (by simp) (by simp) (by simp))
  · intro k p hl hp
    have hno : p ≠ .sd i ∧ p ≠ .file i ∧ p ≠ .sb i ∧ p ≠ .wb i := by
      refine ⟨?_, ?_, ?_, ?_⟩ <;> (rintro rfl; exact hp (by simp [isOf]))
    exact ⟨hold k p hl hno.1 hno.2.1 hno.2.2.1 hno.2.2.2, hml k p hl hno.1⟩
  · intro k p hl
    unfold moveLab at hl
    by_cases e : some k = v'.ownBlock
    · have hk := ownsRow.at hrow e.symm
      rcases hat with h1 | h1
      · have := h.base k _ (F.seen.lab k (by rw [← h1]; exact e.symm)); omega
      · have := h1 k e.symm; omega
    · rw [if_neg e] at hl
      by_cases e2 : lab k = some (.sd i)
      · rw [if_pos e2] at hl; cases hl
      · rw [if_neg e2] at hl
        have := h.base k p hl; omega
  · have f1 : Frm (Ft lab) w (w1.setCell ⟨(A.fa i).fb, 1, none⟩ v') := by
      refine Frm.setCell ?_ _ _ (fun _ => by unfold Ft; rw [F.lfb]; rfl)
      exact (Frm.of_grown hg).mono (fun k _ e => by unfold Ft; rw [F.seen.lab k e.symm]; rfl)
    exact f1.trans hfr (fun k _ e => e.elim (fun e => by unfold Ft; rw [e, F.lsb]; rfl) (fun e => by unfold Ft; rw [e, F.lwb]; rfl))
  · intro k hlt hl
    unfold Ft moveLab at hl
    by_cases e : some k = v'.ownBlock
    · rcases hat with h1 | h1
      · unfold Ft; rw [F.seen.lab k (by rw [← h1]; exact e.symm)]; rfl
      · have := (h1 k e.symm).1; omega
    · rw [if_neg e] at hl
      by_cases e2 : lab k = some (.sd i)
      · unfold Ft; rw [e2]; rfl
      · rw [if_neg e2] at hl; exact hl
end
end Go.Proofs.YtkmmlfphcfcbgaaGreatDoor.Da

/- Walks: sectors, add. -/
namespace Go.Proofs.YtkmmlfphcfcbgaaGreatDoor.Dw
open Go.RowKit Go.ChangeMaps Go.Proofs.YtkmmlfphcfcbgaaGreatDoor.Mp Go.Proofs.YtkmmlfphcfcbgaaGreatDoor.Dm Go.Proofs.YtkmmlfphcfcbgaaGreatDoor.Da
set_option linter.unusedVariables false
set_option linter.unusedSimpArgs false
set_option linter.unusedSectionVars false
set_option maxRecDepth 100000 in
theorem sectors_calls (n : Nat) (hn : n ≤ 4611686018427387904) (w : World) :
    Calls Tryz.prog 77 #[.int .i64 n] w fun e w' => e = .returned (.int .i64 (sectors n)) ∧ w' = w := by
  have e1 : Int.tdiv ((n : Int) + 511) 512 = ((sectors n : Nat) : Int) := by
    rw [Int.tdiv_eq_ediv_of_nonneg (by omega)]; unfold sectors; omega
  go_enter Tryz.func77, Tryz.ntmps77
  go_wp2
  go_ret
  refine ⟨?_, rfl⟩
  show Ending.returned (Value.int .i64 (((n : Int) + 512 - 1) / 512)) = _
  congr 2
  unfold sectors; omega
theorem FromAt.form {w : World} {v : Value} {xs : List Int} (h : FromAt w v xs) : ∃ p c, v = .slice p xs.length c := by
  rcases h with ⟨rfl, rfl⟩ | ⟨a, off, c, rfl, _⟩ | ⟨a, c, rfl, rfl⟩
  · exact ⟨none, 0, rfl⟩
  · exact ⟨_, _, rfl⟩
  · exact ⟨_, _, rfl⟩
theorem row_form {w : World} {base : Nat} {v : Value} {n : Nat} {xs : List Value} (h : w.ownsRow base 5 1 v n xs) : ∃ p c, v = .slice p n c := by
  rcases h.2 with ⟨h1, h2⟩ | ⟨g, cap, cur, hv, _⟩
  · exact ⟨none, 0, by rw [h1, h2]⟩
  · exact ⟨_, _, hv⟩
theorem add_mid {B : Nat} {w : World} {b : Nat} {A : Adr} {lab : Nat → Option Lb} {D : Disk} (h : DiskAt B w b A lab D) {i : Nat} {f : FileS} (hf : D.files[i]? = some f) {w1 : World} (hg : w.grownBy w1 (A.fa i).sd.ownBlock) (v' : Value) :
    (w1.setCell ⟨(A.fa i).fb, 1, none⟩ v').heap[(A.fa i).fb]? = some (.cells #[.int .i64 (i + 1 : Nat), v', .map (some (A.fa i).sb), (A.fa i).ad, .map (some (A.fa i).ab), .map (some (A.fa i).wb)] 144 (0, 0)) ∧
      SetAt (w1.setCell ⟨(A.fa i).fb, 1, none⟩ v') (A.fa i).sb f.badSeen ∧ SetAt (w1.setCell ⟨(A.fa i).fb, 1, none⟩ v') (A.fa i).wb f.waits := by
  have F := h.files i f hf
  have hk : ∀ k p, lab k = some p → p ≠ .sd i → w1.heap[k]? = w.heap[k]? := fun k p hl hp => hg.block k (h.base k p hl).2 (by
    intro e
    have := F.seen.lab k e.symm
    rw [hl] at this; exact hp (Option.some.inj this))
  refine ⟨?_, F.badSeen.same ?_, F.waits.same ?_⟩
  · rw [blk_set ((hk _ _ F.lfb (by simp)).trans F.blk)]; rfl
  · rw [blk_set_ne (ne_of_lab F.lsb F.lfb (by simp)), hk _ _ F.lsb (by simp)]
  · rw [blk_set_ne (ne_of_lab F.lwb F.lfb (by simp)), hk _ _ F.lwb (by simp)]
set_option maxHeartbeats 1000000 in
set_option maxRecDepth 100000 in
theorem add_calls {B : Nat} {w : World} {b : Nat} {A : Adr} {lab : Nat → Option Lb} {D : Disk} (h : DiskAt B w b A lab D) {i : Nat} {f : FileS} (hf : D.files[i]? = some f) (v : Value) (data : List Int) (hv : FromAt w v data) (hlen : f.seen.length + data.length ≤ 8796093022208) :
    Calls Tryz.prog 100 #[fptr A i, v] w fun e w' => e = .returned (.tuple #[]) ∧ Ext B b lab w w' (D.modify i (FileS.add data)) := by
  have F := h.files i f hf
  obtain ⟨pv, cv, hvf⟩ := hv.form
  obtain ⟨p0, c0, hsd⟩ := row_form F.seen.row
  have x1 : w.cell? ⟨(A.fa i).fb, 1, none⟩ = some (A.fa i).sd := cell_of F.blk rfl
  rw [hsd] at x1
  have hown := F.seen.row
  have fblt := blk_lt F.blk
  have hnfb : (A.fa i).sd.ownBlock ≠ some (A.fa i).fb := fun e => by have := F.seen.lab _ e; rw [F.lfb] at this; cases this
  have H := Lib.hid h
  have HF := Lib.hid hf
  have HFile := Lib.hid F
  clear h hf F
  unfold fptr
  by_cases hd : data = []
  · subst hd
    have hlen0 : f.seen.length + 0 ≤ 140737488355328 := by omega
    rw [hvf] at hv ⊢
    rw [hsd] at hown
    go_enter Tryz.func100, Tryz.ntmps100
    go_wp2_with (first | (refine wpl_append_bytes (v := .slice p0 f.seen.length c0) rfl (.tmp 17) (.tmp 18) rfl rfl hown rfl hv hlen0 ?_; intro p c w1 hr hg hat; have y1 : w1.cell? ⟨(A.fa i).fb, 1, none⟩ = w.cell? ⟨(A.fa i).fb, 1, none⟩ := hg.cell_far _ fblt (by rw [← hsd]; exact Ne.symm hnfb); have y2 : w1.frozen? ⟨(A.fa i).fb, 1, none⟩ = w.frozen? ⟨(A.fa i).fb, 1, none⟩ := hg.frozen_far _ fblt (by rw [← hsd]; exact Ne.symm hnfb); rw [x1] at y1; rw [frozen_of HFile.out.blk] at y2))
    refine bodyPost_ret (results_none rfl _ _ _) rfl ⟨rfl, ?_⟩
    rw [← hsd] at hg hat
    obtain ⟨_, m1, m2⟩ := add_mid H.out HF.out hg (.slice p f.seen.length c)
    exact H.out.addFile HF.out (xs := f.seen) (by simpa using hr) hg hat (Frm.refl _ _) m1 m2 (FileS.add []) (by simp [FileS.add])
  · have hdl : 0 < data.length := List.length_pos_iff.2 hd
    have hlen0 : f.seen.length + data.length ≤ 140737488355328 := by omega
    have hb0 : ((data.length : Int) == 0) = false := by
      rw [beq_eq_false_iff_ne]; omega
    have e1 : Int.tdiv (f.seen.length : Int) 512 = (f.seen.length : Int) / 512 := Int.tdiv_eq_ediv_of_nonneg (by omega)
    rw [hvf] at hv ⊢
    rw [hsd] at hown
    go_enter Tryz.func100, Tryz.ntmps100
    go_wp2_with (first | (refine wpl_append_bytes (v := .slice p0 f.seen.length c0) rfl (.tmp 17) (.tmp 18) rfl rfl hown rfl hv hlen0 ?_; intro p c w1 hr hg hat; have y1 : w1.cell? ⟨(A.fa i).fb, 1, none⟩ = w.cell? ⟨(A.fa i).fb, 1, none⟩ := hg.cell_far _ fblt (by rw [← hsd]; exact Ne.symm hnfb); have y2 : w1.frozen? ⟨(A.fa i).fb, 1, none⟩ = w.frozen? ⟨(A.fa i).fb, 1, none⟩ := hg.frozen_far _ fblt (by rw [← hsd]; exact Ne.symm hnfb); rw [x1] at y1; rw [frozen_of HFile.out.blk] at y2))
    rw [← hsd] at hg hat
    obtain ⟨m0, m1, m2⟩ := add_mid H.out HF.out hg (.slice p (f.seen.length + data.length) c)
    have hfin : Hid (∀ w3 bs ws, Frm (fun x => x = (A.fa i).sb ∨ x = (A.fa i).wb) (w1.setCell ⟨(A.fa i).fb, 1, none⟩ (.slice p (f.seen.length + data.length) c)) w3 → SetAt w3 (A.fa i).sb bs → SetAt w3 (A.fa i).wb ws →
        (∀ j, bs j = (f.badSeen j && !(decide (f.seen.length / 512 ≤ j) && decide (j < sectors (f.seen.length + data.length))))) → (∀ j, ws j = (f.waits j || (decide (f.seen.length / 512 ≤ j) && decide (j < sectors (f.seen.length + data.length))))) → Ext B b lab w w3 (D.modify i (FileS.add data))) := by
      intro w3 bs ws h1 h2 h3 h4 h5
      refine H.out.addFile HF.out (xs := f.seen ++ data) (bs := bs) (ws := ws) (by simpa using hr) hg hat h1 h2 h3 (FileS.add data) ?_
      have e4 : bs = fun j => (f.badSeen j && !(decide (f.seen.length / 512 ≤ j) && decide (j < sectors (f.seen.length + data.length)))) := funext h4
      have e5 : ws = fun j => (f.waits j || (decide (f.seen.length / 512 ≤ j) && decide (j < sectors (f.seen.length + data.length)))) := funext h5
      unfold FileS.add
      rw [if_neg hd, e4, e5]
    clear hr hg hat y1 y2 hown hv x1
    generalize w1.setCell ⟨(A.fa i).fb, 1, none⟩ (.slice p (f.seen.length + data.length) c) = W2 at *
    have fb2 := blk_lt m0
    have sb2 : (A.fa i).sb < W2.heap.size := by obtain ⟨_, hm, _⟩ := m1; exact hm.lt
    have wb2 : (A.fa i).wb < W2.heap.size := by obtain ⟨_, hm, _⟩ := m2; exact hm.lt
    have nfs : ¬ ((A.fa i).fb = (A.fa i).sb ∨ (A.fa i).fb = (A.fa i).wb) := fun e => e.elim (ne_of_lab HFile.out.lfb HFile.out.lsb (by simp)) (ne_of_lab HFile.out.lfb HFile.out.lwb (by simp))
    have nsw : (A.fa i).sb ≠ (A.fa i).wb := ne_of_lab HFile.out.lsb HFile.out.lwb (by simp)
    have M0 := Lib.hid m0
    have M1 := Lib.hid m1
    have M2 := Lib.hid m2
    clear m0 m1 m2
    generalize hL : f.seen.length / 512 = L at *
    have hL2 : (f.seen.length : Int) / 512 = (L : Int) := by omega
    rw [hL2]
    generalize hT : sectors (f.seen.length + data.length) = T at *
    have hT2 : L ≤ T := by rw [← hL, ← hT]; unfold sectors; omega
    have hT3 : T ≤ 4611686018427387904 := by rw [← hT]; unfold sectors; omega
    go_loopw [5] (fun v wr => ∃ k : Nat, v = .int .i64 k ∧ L ≤ k ∧ k ≤ T ∧ Frm (fun x => x = (A.fa i).sb ∨ x = (A.fa i).wb) W2 wr ∧ SetAt wr (A.fa i).sb (fun j => f.badSeen j && !(decide (L ≤ j) && decide (j < k))) ∧ SetAt wr (A.fa i).wb (fun j => f.waits j || (decide (L ≤ j) && decide (j < k)))) (fun v _ => T - (intOf v).toNat)
    case atStart =>
      refine ⟨L, rfl, Nat.le_refl _, hT2, Frm.refl _ _, SetAt.congr M1.out ?_, SetAt.congr M2.out ?_⟩ <;> (intro j; by_cases h1 : L ≤ j <;> by_cases h2 : j < L <;> simp [h1, h2] <;> omega)
    case round =>
      obtain ⟨k, rfl, hk1, hk2, hfr, hs1, hs2⟩ := hrel
      have z1 : wr.cell? ⟨(A.fa i).fb, 1, none⟩ = some (.slice p (f.seen.length + data.length) c) := (hfr.cell fb2 nfs).trans (cell_of M0.out rfl)
      have z2 : wr.cell? ⟨(A.fa i).fb, 2, none⟩ = some (.map (some (A.fa i).sb)) := (hfr.cell fb2 nfs).trans (cell_of M0.out rfl)
      have z5 : wr.cell? ⟨(A.fa i).fb, 5, none⟩ = some (.map (some (A.fa i).wb)) := (hfr.cell fb2 nfs).trans (cell_of M0.out rfl)
      have hsec := sectors_calls (f.seen.length + data.length) (by omega) wr
      rw [hT] at hsec
      have HSec := Lib.hid hsec
      have HFr := Lib.hid hfr
      have HS1 := Lib.hid hs1
      have HS2 := Lib.hid hs2
      clear hsec hfr hs1 hs2
      by_cases hlt : k < T
      · obtain ⟨ks, hm, hnd, hmem⟩ := HS2.out
        obtain ⟨ks1, hm1, hnd1, hmem1⟩ := HS1.out
        change MapAt (Value.int .i64) wr (A.fa i).wb (ent ks) at hm
        change MapAt (Value.int .i64) wr (A.fa i).sb (ent ks1) at hm1
        have HMem := Lib.hid hmem
        have HMem1 := Lib.hid hmem1
        clear hmem hmem1
        go_wp2_with (first
          | (go_at_call 77; refine HSec.out.mono ?_; rintro e w' ⟨rfl, rfl⟩)
          | (at_mapUpdate; refine wpl_update _ rfl _ _ _ rfl kI Tryz.underlying140 (k : Int) rfl rfl hm (fun w2 hm2 hg2 hs2 => ?_); have q2 : w2.cell? ⟨(A.fa i).fb, 2, none⟩ = some (.map (some (A.fa i).sb)) := (hg2.cell_far _ (Nat.lt_of_lt_of_le fb2 HFr.out.size) (by simpa using fun e => nfs (.inr e))).trans z2)
          | (at_delete; refine wpl_delete _ rfl _ _ rfl kI Tryz.underlying140 (k : Int) rfl rfl (hm1.of_block (hg2.block _ (Nat.lt_of_lt_of_le sb2 HFr.out.size) (by simpa using nsw))) (fun w3 hm3 hg3 hs3 => ?_)))
        have t1 := SetAt.del (S := fun j => f.badSeen j && !(decide (L ≤ j) && decide (j < k))) hnd1 HMem1.out k hm3
        have t2 := SetAt.same (SetAt.ins (S := fun j => f.waits j || (decide (L ≤ j) && decide (j < k))) hnd HMem.out k hm2) (hg3.block _ (by have := hg2.size; have := HFr.out.size; omega) (by simpa using Ne.symm nsw))
        refine ⟨⟨k + 1, by go_num, by omega, by omega, ?_, SetAt.congr t1 ?_, SetAt.congr t2 ?_⟩, by simp [intOf]; omega⟩
        · exact (HFr.out.grown hg2 (fun x e _ => .inr (Option.some.inj e).symm)).grown hg3 (fun x e _ => .inl (Option.some.inj e).symm)
        · intro j
          cases f.badSeen j with
          | false => simp
          | true => by_cases h1 : L ≤ j <;> by_cases h2 : j < k <;> by_cases h3 : j = k <;> by_cases h4 : j < k + 1 <;> simp [h1, h2, h3, h4] <;> omega
        · intro j
          cases f.waits j with
          | true => simp
          | false => by_cases h1 : L ≤ j <;> by_cases h2 : j < k <;> by_cases h3 : j = k <;> by_cases h4 : j < k + 1 <;> simp [h1, h2, h3, h4] <;> omega
      · obtain rfl : k = T := by omega
        go_wp2_with (first
          | (go_at_call 77; refine HSec.out.mono ?_; rintro e w' ⟨rfl, rfl⟩))
        go_end0
        exact ⟨rfl, hfin.out _ _ _ HFr.out HS1.out HS2.out (fun _ => rfl) (fun _ => rfl)⟩
end Go.Proofs.YtkmmlfphcfcbgaaGreatDoor.Dw

/- Walks: waitingSectors. -/
namespace Go.Proofs.YtkmmlfphcfcbgaaGreatDoor.Dw
open Go.RowKit Go.ChangeMaps Go.Proofs.YtkmmlfphcfcbgaaGreatDoor.Mp Go.Proofs.YtkmmlfphcfcbgaaGreatDoor.Dm Go.Proofs.YtkmmlfphcfcbgaaGreatDoor.Da
set_option linter.unusedVariables false
set_option linter.unusedSimpArgs false
set_option linter.unusedSectionVars false
theorem sorted_set {ks dk : List Int} {S : Nat → Bool} {M : Nat} (hp : dk.Perm ks) (hn : ks.Nodup) (hm : ∀ k : Int, k ∈ ks ↔ 0 ≤ k ∧ S k.toNat = true) (hM : ∀ k, S k = true → k < M) : dk.mergeSort leI = numbers S M := by
  have h1 : (dk.mergeSort leI).Perm (numbers S M) := by
    refine (List.mergeSort_perm _ _).trans (hp.trans ?_)
    rw [List.perm_ext_iff_of_nodup hn ((numbers_pairwise S M).imp fun h => by omega)]
    intro k
    rw [hm k, numbers_mem]
    exact ⟨fun h => ⟨h.1, by have := hM _ h.2; omega, h.2⟩, fun h => ⟨h.1, h.2.2⟩⟩
  refine List.Perm.eq_of_pairwise (le := fun a b : Int => a ≤ b) (fun a b _ _ h1 h2 => by omega) ?_ ((numbers_pairwise S M).imp fun h => by omega) h1
  exact (List.pairwise_mergeSort (le := leI) (fun a b c h1 h2 => by unfold leI at *; simp at *; omega) (fun a b => by unfold leI; simp; omega) dk).imp fun h => by unfold leI at h; simpa using h
theorem own_ne_iter {w : World} {base : Nat} {e : TypeId} {size n : Nat} {v : Value} {xs : List Value} {it m : Nat} {α : Type} {enc : α → Value} {l todo : List (α × Value)} (h : w.ownsRow base e size v n xs) (hi : IterAt enc w it m l todo) : some it ≠ v.ownBlock ∧ some m ≠ v.ownBlock := by
  obtain ⟨es, c, s, h1, h2, _⟩ := hi
  rcases h.2 with ⟨rfl, _⟩ | ⟨g, cap, cur, rfl, _, hb, _⟩
  · simp [Value.ownBlock]
  · constructor <;> intro e1
    · have : it = g := by simpa [Value.ownBlock] using e1
      subst this; rw [h2] at hb; cases hb
    · have : m = g := by simpa [Value.ownBlock] using e1
      subst this; rw [h1] at hb; cases hb
theorem own_form {w : World} {base : Nat} {e : TypeId} {size n : Nat} {v : Value} {xs : List Value} (h : w.ownsRow base e size v n xs) : ∃ p c, v = .slice p n c := by
  rcases h.2 with ⟨rfl, rfl⟩ | ⟨g, cap, cur, rfl, _⟩
  · exact ⟨none, 0, rfl⟩
  · exact ⟨_, cap, rfl⟩
theorem own_low {w : World} {base : Nat} {e : TypeId} {size n : Nat} {v : Value} {xs : List Value} (h : w.ownsRow base e size v n xs) {k : Nat} (hk : v.ownBlock = some k) : base ≤ k ∧ k < w.heap.size := by
  rcases h.2 with ⟨rfl, _⟩ | ⟨g, cap, cur, rfl, hb, hh, _⟩
  · simp [Value.ownBlock] at hk
  · have : g = k := by simpa [Value.ownBlock] using hk
    subst this
    exact ⟨hb, blk_lt hh⟩
theorem own_grown {w w' : World} {base : Nat} {e : TypeId} {size n : Nat} {v : Value} {xs : List Value} {row : Option Nat} (h : w.ownsRow base e size v n xs) (hg : w.grownBy w' row) (hne : ∀ g, v.ownBlock = some g → some g ≠ row) : w'.ownsRow base e size v n xs := by
  refine ⟨h.1, ?_⟩
  rcases h.2 with h2 | ⟨g, cap, cur, hv, hb, hh, r⟩
  · exact .inl h2
  · exact .inr ⟨g, cap, cur, hv, hb, by rw [hg.block g (blk_lt hh) (hne g (by rw [hv]; rfl))]; exact hh, r⟩
/-- In a loop that collects a set's numbers. -/
structure KeysInv (w wr : World) (base m it : Nat) (ks tk dk : List Int) (v : Value) : Prop where
  frm : Frm (fun _ => False) w wr
  iter : IterAt (Value.int .i64) wr it m (ent ks) (ent tk)
  row : wr.ownsRow base 3 1 v dk.length (i64s dk)
  perm : (tk ++ dk).Perm ks
theorem intInfo : (Tryz.prog.info? 3).map (fun i => (i.zero, i.size, i.bytes)) = some (some (.int .i64 0), 1, 8) := by kernel_rfl
set_option maxHeartbeats 1000000 in
set_option maxRecDepth 100000 in
theorem waitingSectors_calls {w : World} {fb m : Nat} {cs : Array Value} {S : Nat → Bool} {M : Nat} (hb : w.heap[fb]? = some (.cells cs 144 (0, 0))) (h5 : cs[5]? = some (.map (some m))) (hS : SetAt w m S) (hM : ∀ k, S k = true → k < M) (hM2 : M ≤ 4398046511104) :
    Calls Tryz.prog 138 #[.pointer (some ⟨fb, 0, none⟩)] w fun e w' => ∃ v, e = .returned v ∧ w'.ownsRow w.heap.size 3 1 v (numbers S M).length (i64s (numbers S M)) ∧ Frm (fun _ => False) w w' := by
  obtain ⟨i0, hi0, hz0, hz1, hz2⟩ := info_parts intInfo
  have c5 : w.cell? ⟨fb, 5, none⟩ = some (.map (some m)) := cell_of hb h5
  obtain ⟨ks, hks, hnd, hmem⟩ := hS
  change MapAt (Value.int .i64) w m (ent ks) at hks
  have hlen : ks.length ≤ M := by
    have e := sorted_set (List.Perm.refl ks) hnd hmem hM
    have h1 : (ks.mergeSort leI).length = ks.length := by simp
    rw [← h1, e]
    unfold numbers
    simp only [List.length_map]
    exact Nat.le_trans (List.length_filter_le _ _) (by simp)
  have hfin : Hid (∀ dk : List Int, dk.Perm ks → dk.mergeSort leI = numbers S M) := fun dk hp => sorted_set hp hnd hmem hM
  have HND := Lib.hid hnd
  have hmx : maxLen = 9223372036854775807 := by decide
  have hl1 : (ent ks).length = ks.length := by simp [ent]
  have HL1 := Lib.hid hl1
  have hml := hks.lt
  have fbl := blk_lt hb
  clear hmem hM hb h5 hnd hl1
  go_enter Tryz.func138, Tryz.ntmps138
  go_wp2_with (first
    | (refine wpl_len _ rfl (.tmp 8) rfl Tryz.underlying140 rfl hks ?_; rw [HL1.out])
    | (at_make; refine wpList_make_own _ rfl _ _ _ rfl w.heap.size 3 i0 _ 1 Tryz.underlying76 hi0 hz0 hz1 .i64 .i64 _ ks.length rfl rfl rfl (by rw [hz2]; omega) (by omega) (Nat.le_refl _) ?_; intro w1 hown1 hg1; have c51 : w1.cell? ⟨fb, 5, none⟩ = some (.map (some m)) := (hg1.cell_far _ fbl (by simp)).trans c5; have hks1 := hks.of_block (hg1.block m hml (by simp)))
    | (at_range; refine wpl_range _ rfl _ rfl Tryz.underlying140 rfl hks1 ?_; intro W2 hi2 hg2 hs2))
  have I2 : KeysInv w W2 w.heap.size m w1.heap.size ks ks [] (.slice (some ⟨w.heap.size, 0, none⟩) 0 ks.length) :=
    ⟨((Frm.refl _ _).grown hg1 (by simp)).grown hg2 (by simp), hi2, by simpa [i64s] using own_grown hown1 hg2 (fun g _ => by simp), by simp⟩
  have HI := Lib.hid I2
  have hwb : w.heap.size ≤ w1.heap.size := hg1.size
  clear I2 hi2 hg2 hs2 hown1 hg1 c51 hks1 c5 hks
  go_frame
  generalize w1.heap.size = it at *
  go_loopw [3] (fun v wr => ∃ tk dk, KeysInv w wr w.heap.size m it ks tk dk v) (fun _ wr => leftIn wr it m)
  case atStart => exact ⟨ks, [], HI.out⟩
  case round =>
    obtain ⟨tk, dk, I⟩ := hrel
    have II := Lib.hid I
    have hI := I.iter
    have hleft := I.iter.left
    have hrow := I.row
    clear I
    by_cases h0 : tk = []
    · subst h0
      have hp : dk.Perm ks := by simpa using II.out.perm
      have hdl : dk.length < 4611686018427387904 := by have := hp.length_eq; omega
      obtain ⟨p, c, rfl⟩ := own_form hrow
      have KEY := Lib.hid (sortI_calls wr w.heap.size 3 p c dk hrow hdl)
      go_wp2_with (first
        | (at_next; refine wpl_next _ rfl _ rfl rfl hI (fun h0 => ?_) (fun y vv todo' w1 hp hi1 hg1 hs1 hen => absurd hp.length_eq (by simp [ent])))
        | (go_at_call 139; refine KEY.out.mono ?_; rintro e w3 ⟨rfl, hr3, hg3⟩; have HR3 := Lib.hid (And.intro hr3 hg3); clear hr3 hg3))
      go_ret
      have e := hfin.out dk hp
      rw [← e]
      exact ⟨_, rfl, by simpa using HR3.out.1, II.out.frm.grown HR3.out.2 (fun k e hk => by have := own_low hrow e; omega)⟩
    · have hlt : dk.length < ks.length := by
        have := II.out.perm.length_eq
        have h2 : 0 < tk.length := List.length_pos_iff.2 h0
        simp at this; omega
      have hn1 : dk.length + 1 ≤ maxLen := by omega
      have hb1 : (dk.length + 1) * 8 ≤ 140737488355328 := by omega
      have hne := own_ne_iter hrow hI
      have hwr : w.heap.size ≤ wr.heap.size := II.out.frm.size
      go_wp2_with (first
        | (at_next; refine wpl_next _ rfl _ rfl rfl hI (fun h0x => absurd (List.map_eq_nil_iff.1 h0x) h0) (fun y vv todo' w1 hp hi1 hg1 hs1 hen => ?_); obtain ⟨rfl, tk', rfl, hp'⟩ := ent_perm hp; have HP' := Lib.hid hp'; have hrow1 := own_grown hrow hg1 (fun g hg => by rw [← hg]; exact fun e => hne.1 e.symm); have hsz1 := hg1.size; clear hp hp' hs1)
        | (at_builtin; refine wpList_append_own_at _ rfl _ _ _ rfl w.heap.size 3 i0 _ 1 8 Tryz.underlying76 hi0 hz0 hz1 hz2 rfl (by omega) _ dk.length _ rfl (hrow1.alloc _) ⟨w1.heap.size, 0, none⟩ 1 1 [.int .i64 y] rfl rfl (World.news_of_block (cs := #[.int .i64 y]) (t := 3) (fr := (0, 0)) (heap_alloc_new w1 _)) (by simp [Value.oneCell']) hn1 hb1 (by simp; omega) ?_; intro v2 w2 hown2 hg2 hnil2 hat2))
      have hi2 : IterAt (Value.int .i64) w2 it m (ent ks) (ent tk') := by
        have itl : it < w1.heap.size := by obtain ⟨es, cl, sn, _, hh, _⟩ := hi1; exact blk_lt hh
        have ml : m < w1.heap.size := by obtain ⟨es, cl, sn, hh, _⟩ := hi1; exact blk_lt hh
        exact hi1.of_block ((hg2.block m (by simp; omega) hne.2).trans (blk_alloc_lt ml)) ((hg2.block it (by simp; omega) hne.1).trans (blk_alloc_lt itl))
      go_roundw
      case rel =>
        refine ⟨tk', dk ++ [y], ⟨?_, hi2, by simpa [i64s] using hown2, ?_⟩⟩
        · exact ((II.out.frm.grown hg1 (fun k e hk => by have := Option.some.inj e; omega)).alloc _).grown hg2 (fun k e hk => by have := own_low hrow e; omega)
        · refine List.Perm.trans ?_ II.out.perm
          refine List.Perm.trans ?_ (HP'.out.symm.append_right dk)
          rw [← List.append_assoc]
          exact List.perm_append_singleton y (tk' ++ dk)
      case measure =>
        rw [hi2.left, hleft]
        have := HP'.out.length_eq
        simp [ent] at this ⊢
        omega
end Go.Proofs.YtkmmlfphcfcbgaaGreatDoor.Dw

/- Rows of bytes of the call's own: zeros behind them, a part cleared, a part copied over. -/
namespace Go.Proofs.YtkmmlfphcfcbgaaGreatDoor.Dw
open Go.RowKit Go.ChangeMaps Go.Proofs.YtkmmlfphcfcbgaaGreatDoor.Mp Go.Proofs.YtkmmlfphcfcbgaaGreatDoor.Dm Go.Proofs.YtkmmlfphcfcbgaaGreatDoor.Da Go.Proofs.YtkmmlfphcfcbgaaGreatDoorW.PrintWords
set_option linter.unusedVariables false
set_option linter.unusedSimpArgs false
set_option linter.unusedSectionVars false
theorem zeroCells_u8 (m : Nat) : (Builtin.zeroCells (Value.int .u8 0).cells m).toList = u8s (List.replicate m 0) := by
  apply List.ext_getElem
  · simp [u8s, Builtin.zeroCells, Value.cells]
  · intro i h1 h2
    simp [u8s, Builtin.zeroCells, Value.cells, Nat.mod_one]
section
variable {w : World} {base g n cap : Nat} {xs : List Int} {P : Program} {ops : Array Oper} {rest : List Oper} {o : Oper} {a : Act} {Q : Exit → Act → World → Prop}
/-- append(v, make([]byte, m)...) -/
theorem wpl_append_zeros (hg : o.guard = none) (s x : Operand) (hop : o.op = Op.call { callee := Callee.builtin Builtin.append, args := #[s, x], argTypes := #[36, 3] }) {v : Value} (hs : a.eval s = v) (hx : a.eval x = .int .i64 n)
    (hrow : w.ownsRow base 5 1 v xs.length (u8s xs)) (hl : xs.length + n ≤ 140737488355328) (hb : base ≤ w.heap.size)
    (hK : ∀ v' w', w'.ownsRow base 5 1 v' (xs ++ List.replicate n 0).length (u8s (xs ++ List.replicate n 0)) → w.grownBy w' v.ownBlock → wpList Tryz.prog ops Q rest (a.put o.dst v') w') : wpList Tryz.prog ops Q (o :: rest) a w := by
  refine wpList_plain hg fun K' hK' => ?_
  obtain ⟨i0, hi0, hz0, hz1, hz2⟩ := info_parts byteInfo
  obtain ⟨v', w', hrun, h2, h3, h4⟩ := run_append_zeros (P := Tryz.prog) w base 36 3 o.type 5 i0 _ 1 1 Tryz.underlying36 Tryz.underlying3 hi0 hz0 hz1 hz2 rfl (by omega) (by omega) v xs.length _ hrow .i64 n (by rw [zeroCells_u8]; exact mem_oneCell) (by omega) hb
  rw [zeroCells_u8] at h2
  unfold Oper.wp
  simp [execOp, hop, resolve, invoke, builtin, hs, hx, hrun, Result.andThen]
  refine hK' _ _ (hK v' w' ?_ h3)
  have e : u8s xs ++ u8s (List.replicate n 0) = u8s (xs ++ List.replicate n 0) := by simp [u8s]
  rw [e] at h2
  simpa using h2
theorem row_setCells {cs : List Int} {off : Nat} (h : w.ownsRow base 5 1 (.slice (some ⟨g, 0, none⟩) n cap) n (u8s xs)) (hn : xs.length = n) (hoff : off + cs.length ≤ n) :
    (w.setCells g off (u8s cs)).ownsRow base 5 1 (.slice (some ⟨g, 0, none⟩) n cap) n (u8s (xs.take off ++ cs ++ xs.drop (off + cs.length))) ∧ w.grownBy (w.setCells g off (u8s cs)) (some g) ∧ (w.setCells g off (u8s cs)).heap.size = w.heap.size := by
  have hl : (u8s cs).length = cs.length := by simp [u8s]
  obtain ⟨s1, s2, s3, s4⟩ := setCells_same g (u8s cs) off w
  have hgr : w.grownBy (w.setCells g off (u8s cs)) (some g) := ⟨s1, s2, s3, by rw [s4]; exact Nat.le_refl _, fun k _ hk => setCells_far (u8s cs) _ k (fun e => hk (by rw [e]))⟩
  refine ⟨?_, hgr, s4⟩
  rcases h.2 with ⟨hv, _⟩ | ⟨g', cap', cur, hv, hb, hh, h1, h2, h3, h4⟩
  · cases hv
  · simp only [Value.slice.injEq, Option.some.injEq, Addr.mk.injEq, true_and, and_true] at hv
    obtain ⟨rfl, rfl⟩ := hv
    obtain ⟨cur', e1, e2, e3⟩ := setCells_row (u8s cs) off w cur hh (by rw [hl, h3]; omega)
    refine ⟨?_, .inr ⟨g, cap, cur', rfl, hb, e1, h1, h2, by rw [e2, h3], ?_⟩⟩
    · simp only [u8s, List.length_map, List.length_append, List.length_take, List.length_drop]; omega
    · rw [e3, hl]
      rw [Nat.mul_one] at h4 ⊢
      have hc : cur.toList.length = cap := by rw [Array.length_toList, h3, Nat.mul_one]
      have e5 : cur.toList.take off = (u8s xs).take off := by rw [← h4, List.take_take, Nat.min_eq_left (by omega)]
      have e6 : (cur.toList.drop (off + cs.length)).take (n - (off + cs.length)) = (u8s xs).drop (off + cs.length) := by
        rw [← h4, List.drop_take]
      rw [e5]
      have e7 : (u8s (xs.take off ++ cs ++ xs.drop (off + cs.length))) = (u8s xs).take off ++ u8s cs ++ (u8s xs).drop (off + cs.length) := by simp [u8s, List.map_take, List.map_drop]
      rw [e7, ← e6]
      have hl2 : ((u8s xs).take off ++ u8s cs).length = off + cs.length := by simp [u8s]; omega
      rw [List.take_append, hl2, List.take_of_length_le (by omega)]
/-- clear(v[off:off+m]) -/
theorem wpl_clear_bytes (hg : o.guard = none) (x : Operand) (hop : o.op = Op.call { callee := Callee.builtin Builtin.clear, args := #[x], argTypes := #[36] }) {off m c : Nat} (hx : a.eval x = .slice (some ⟨g, off, none⟩) m c)
    (hm : 0 < m) (hrow : w.ownsRow base 5 1 (.slice (some ⟨g, 0, none⟩) n cap) n (u8s xs)) (hn : xs.length = n) (hoff : off + m ≤ n)
    (hK : ∀ w', w'.ownsRow base 5 1 (.slice (some ⟨g, 0, none⟩) n cap) n (u8s (xs.take off ++ List.replicate m 0 ++ xs.drop (off + m))) → w.grownBy w' (some g) → w'.heap.size = w.heap.size → wpList Tryz.prog ops Q rest (a.put o.dst (.tuple #[])) w') : wpList Tryz.prog ops Q (o :: rest) a w := by
  refine wpList_plain hg fun K' hK' => ?_
  have hz : ∀ w : World, (zeroValue 5).run Tryz.prog w = .ok (.int .u8 0) w := fun w => by kernel_rfl
  have hcell : ∀ j, j < n → w.cell? ⟨g, j, none⟩ = (u8s xs)[j]? ∧ w.frozen? ⟨g, j, none⟩ = false := by
    intro j hj
    rcases hrow.2 with ⟨hv, _⟩ | ⟨g', cap', cur, hv, hb, hh, h1, h2, h3, h4⟩
    · cases hv
    · simp only [Value.slice.injEq, Option.some.injEq, Addr.mk.injEq, true_and, and_true] at hv
      obtain ⟨rfl, rfl⟩ := hv
      refine ⟨?_, frozen_of hh⟩
      simp only [World.cell?, hh]
      rw [← h4, Nat.mul_one, List.getElem?_take_of_lt hj]
      simp
  have hrun := Lib.run_clear_slice (P := Tryz.prog) w 36 5 o.type (.int .u8 0) Tryz.underlying36 hz rfl rfl g off m c hm
    (fun j hj => by rw [(hcell (off + j) (by omega)).1, List.getElem?_eq_getElem (by simp [u8s]; omega)]; rfl) (fun j hj => (hcell (off + j) (by omega)).2)
  have hu : List.replicate m (Value.int .u8 0) = u8s (List.replicate m 0) := by simp [u8s]
  rw [hu] at hrun
  obtain ⟨r1, r2, r3⟩ := row_setCells (cs := List.replicate m 0) (off := off) hrow hn (by simpa using hoff)
  unfold Oper.wp
  simp [execOp, hop, resolve, invoke, builtin, hx, hrun, Result.andThen]
  exact hK' _ _ (hK _ (by simpa using r1) r2 r3)
/-- copy(v[off:], ys) -/
theorem wpl_copy_bytes (hg : o.guard = none) (d s : Operand) (hop : o.op = Op.call { callee := Callee.builtin Builtin.copy, args := #[d, s], argTypes := #[36, 36] }) {off dLen dCap sCap sl : Nat} {ad : Addr} {ys : List Int} (hsl : ys.length = sl) (hd : a.eval d = .slice (some ⟨g, off, none⟩) dLen dCap)
    (hs : a.eval s = .slice (some ad) sl sCap) (hsrc : ∀ j v, (u8s ys)[j]? = some v → w.cell? (ad.add j) = some v)
    (hrow : w.ownsRow base 5 1 (.slice (some ⟨g, 0, none⟩) n cap) n (u8s xs)) (hn : xs.length = n) (hle : ys.length ≤ dLen) (hoff : off + ys.length ≤ n)
    (hK : ∀ w', w'.ownsRow base 5 1 (.slice (some ⟨g, 0, none⟩) n cap) n (u8s (xs.take off ++ ys ++ xs.drop (off + ys.length))) → w.grownBy w' (some g) → w'.heap.size = w.heap.size → wpList Tryz.prog ops Q rest (a.put o.dst (goInt sl)) w') : wpList Tryz.prog ops Q (o :: rest) a w := by
  subst hsl
  rcases hrow.2 with ⟨hv, _⟩ | ⟨g', cap', cur, hv, hb, hh, h1, h2, h3, h4⟩
  · cases hv
  · simp only [Value.slice.injEq, Option.some.injEq, Addr.mk.injEq, true_and, and_true] at hv
    obtain ⟨rfl, rfl⟩ := hv
    have hl : (u8s ys).length = ys.length := by simp [u8s]
    have hsz : (Tryz.prog.info? 5).map (·.size) = some 1 := by kernel_rfl
    refine wpList_copy_own (w := w) hg d s 36 36 hop 5 Tryz.underlying36 hsz g off dLen dCap ad ys.length sCap hd hs cur 5 hh (u8s ys) (by rw [hl]; exact (Nat.min_eq_left hle).symm) hsrc (by rw [hl, h3]; omega) mem_oneCell ?_
    rw [hl]
    refine hK _ ⟨?_, .inr ⟨g, cap, _, rfl, hb, setRow_heap w g _ _ _ _ hh, h1, h2, ?_, ?_⟩⟩ ⟨rfl, rfl, rfl, by simp [World.setRow], fun k _ hk => setRow_other w g k _ (fun e => hk (by rw [e]))⟩ (by simp [World.setRow])
    · simp only [u8s, List.length_map, List.length_append, List.length_take, List.length_drop]; omega
    · simp only [List.size_toArray, List.length_append, List.length_take, List.length_drop, Array.length_toList, hl, h3]; omega
    · rw [Nat.mul_one] at h4 ⊢
      have e5 : cur.toList.take off = (u8s xs).take off := by rw [← h4, List.take_take, Nat.min_eq_left (by omega)]
      have e6 : (cur.toList.drop (off + ys.length)).take (n - (off + ys.length)) = (u8s xs).drop (off + ys.length) := by rw [← h4, List.drop_take]
      rw [e5]
      have e7 : (u8s (xs.take off ++ ys ++ xs.drop (off + ys.length))) = (u8s xs).take off ++ u8s ys ++ (u8s xs).drop (off + ys.length) := by simp [u8s, List.map_take, List.map_drop]
      rw [e7, ← e6, ← List.append_assoc]
      have hl2 : ((u8s xs).take off ++ u8s ys).length = off + ys.length := by simp [u8s]; omega
      rw [List.take_append, hl2, List.take_of_length_le (by omega)]
end
end Go.Proofs.YtkmmlfphcfcbgaaGreatDoor.Dw

/- Walks: crc. -/
namespace Go.Proofs.YtkmmlfphcfcbgaaGreatDoor.Dw
open Go.RowKit Go.ChangeMaps Go.Proofs.YtkmmlfphcfcbgaaGreatDoor.Mp Go.Proofs.YtkmmlfphcfcbgaaGreatDoor.Dm Go.Proofs.YtkmmlfphcfcbgaaGreatDoor.Da
open Go.Proofs.YtkmmlfphcfcbgaaGreatDoorW.PrintWords (Kd ReadsInt)
set_option linter.unusedVariables false
set_option linter.unusedSimpArgs false
set_option linter.unusedSectionVars false
/-- The table of the sum. -/
structure CrcAt (B : Nat) (w : World) : Prop where
  cell : ∀ j : Nat, j < 16 → w.cell? ⟨12, j, none⟩ = some (.int .u32 ((Sg.halfs.getD j 0 : Nat) : Int))
  low : 12 < B
theorem CrcAt.frm {B : Nat} {w w' : World} {F : Nat → Prop} (h : CrcAt B w) (hf : Frm F w w') (hF : ∀ k, F k → B ≤ k) : CrcAt B w' := by
  refine ⟨fun j hj => ?_, h.low⟩
  have h1 := h.cell j hj
  rw [← h1]
  exact hf.cell (World.block_lt_of_cell? _ _ h1) (fun hk => by have := hF _ hk; have := h.low; omega)
theorem xor_ones {s : Nat} (h : s < 4294967296) : 4294967295 ^^^ s = 4294967295 - s := by
  have : ∀ k s : Nat, s < 2 ^ k → (2 ^ k - 1) ^^^ s = 2 ^ k - 1 - s := by
    intro k s h
    apply Nat.eq_of_testBit_eq
    intro i
    rw [Nat.testBit_xor, Nat.testBit_two_pow_sub_one, show 2 ^ k - 1 - s = 2 ^ k - (s + 1) by omega, Nat.testBit_two_pow_sub_succ h]
    by_cases hi : i < k
    · simp [hi]
    · have : s.testBit i = false := Nat.testBit_lt_two_pow (Nat.lt_of_lt_of_le h (Nat.pow_le_pow_right (by omega) (by omega)))
      simp [hi, this]
  exact this 32 s h
/-- Four steps, as the walk has them. -/
theorem half_facts {B : Nat} {w : World} (h : CrcAt B w) {Y : Nat} (hY : Y < 4294967296) : ∃ i g Z : Nat, Z < 4294967296 ∧ Z = Sg.step4 Y ∧ bits .and .u32 (Y : Int) 15 = (i : Int) ∧ (w.cell? ⟨12, i, none⟩ = some (.int .u32 (g : Int)) ∧ i < 16) ∧ bits .xor .u32 ((Y : Int) / 16) (g : Int) = (Z : Int) := by
  refine ⟨Y % 16, Sg.halfs.getD (Y % 16) 0, Sg.step4 Y, Sg.step4_lt hY, rfl, ?_, ⟨h.cell (Y % 16) (by omega), by omega⟩, ?_⟩
  · rw [show (15 : Int) = ((15 : Nat) : Int) from rfl, u32_and_nat _ _ hY (by decide), nat_mask4]
  · rw [show (Y : Int) / 16 = ((Y / 16 : Nat) : Int) by omega]
    exact u32_xor_nat _ _ (by omega) (Sg.halfs_lt _)
set_option maxHeartbeats 1000000 in
set_option maxRecDepth 100000 in
theorem crcAdd_calls {B : Nat} {w : World} (h : CrcAt B w) (s : Nat) (hs : s < 4294967296) (p : Option Addr) (c : Nat) (xs : List Int) (hx : ReadsInt w .u8 p xs.length xs) (hc : xs.length ≤ c) (hb : ∀ x, x ∈ xs → 0 ≤ x ∧ x < 256) :
    Calls Tryz.prog 130 #[.int .u32 s, .slice p xs.length c] w fun e w' => e = .returned (.int .u32 (Sg.crcAdd s xs : Nat)) ∧ ∃ q, w' = w.drewN q := by
  have HX := Lib.hid hx
  have HC := Lib.hid h
  have HB := Lib.hid hb
  have hl := hx.2.1
  clear hx h hb
  go_enter Tryz.func130, Tryz.ntmps130
  go_wp2
  go_loopw [5, 12] (fun x v wr => ∃ j q, v = .int .i64 (j : Nat) ∧ x = .int .u32 (((xs.take j).foldl Sg.step8 (4294967295 - s) : Nat) : Int) ∧ j ≤ xs.length ∧ wr = w.drewN q) (fun _ v _ => xs.length - (intOf v).toNat)
  case atStart =>
    refine ⟨0, 0, rfl, ?_, Nat.zero_le _, rfl⟩
    rw [show IntKind.u32.max = ((4294967295 : Nat) : Int) from rfl, u32_xor_nat _ _ (by decide) hs, xor_ones hs]
    rfl
  case round =>
    obtain ⟨j, q, rfl, rfl, hj, rfl⟩ := hrel
    by_cases hlt : j < xs.length
    · obtain ⟨X, hX⟩ : ∃ X, X = (xs.take j).foldl Sg.step8 (4294967295 - s) := ⟨_, rfl⟩
      have hXl : X < 4294967296 := by rw [hX]; exact Sg.steps_lt _ _ (by omega) (fun y hy => HB.out y (List.mem_of_mem_take hy))
      obtain ⟨a, rfl, hca⟩ := HX.out.2.2 (by omega)
      have hcj := hca j hlt
      obtain ⟨b, hb, hbl⟩ : ∃ b : Nat, xs[j] = (b : Int) ∧ b < 256 := by
        have := HB.out xs[j] (List.getElem_mem hlt)
        exact ⟨xs[j].toNat, by omega, by omega⟩
      have hgd : xs.getD j 0 = (b : Int) := by rw [List.getD_eq_getElem?_getD, List.getElem?_eq_getElem hlt, ← hb]; rfl
      rw [hgd] at hcj
      have e1 : bits .xor .u32 (X : Int) (b : Int) = ((X ^^^ b : Nat) : Int) := u32_xor_nat _ _ hXl (by omega)
      have hY : X ^^^ b < 4294967296 := Nat.xor_lt_two_pow (n := 32) hXl (by omega)
      have hnext : Hid ((xs.take (j + 1)).foldl Sg.step8 (4294967295 - s) = Sg.step4 (Sg.step4 (X ^^^ b))) := by
        show _ = _
        rw [List.take_add_one, List.getElem?_eq_getElem hlt, Option.toList_some, List.foldl_append, ← hX]
        show Sg.step8 X xs[j] = _
        rw [hb]; rfl
      rw [← hX]
      clear hX hb hgd hca
      generalize X ^^^ b = Y at *
      obtain ⟨i1, h1, Z, Z1, l1, e2, ⟨c1, b1⟩, e3⟩ := half_facts HC.out hY
      obtain ⟨i2, h2, U, U1, l2, e4, ⟨c2, b2⟩, e5⟩ := half_facts HC.out Z1
      rw [← l1, ← l2] at hnext
      clear l1 l2
      go_wp2
      exact ⟨⟨j + 1, _, by go_num, by rw [hnext.out], by omega, rfl⟩, by simp [intOf]; omega⟩
    · obtain rfl : j = xs.length := by omega
      rw [List.take_length]
      have hXl := Sg.steps_lt xs (4294967295 - s) (by omega) HB.out
      have e1 : Hid (Sg.crcAdd s xs = 4294967295 - xs.foldl Sg.step8 (4294967295 - s)) := Lib.hid rfl
      generalize xs.foldl Sg.step8 (4294967295 - s) = X at *
      have e2 : bits .xor .u32 IntKind.u32.max (X : Int) = ((4294967295 - X : Nat) : Int) := by
        rw [show IntKind.u32.max = ((4294967295 : Nat) : Int) from rfl, u32_xor_nat _ _ (by decide) hXl, xor_ones hXl]
      generalize 4294967295 - X = Y at *
      go_wp2
      go_ret
      rw [e1.out]
      exact ⟨rfl, _, rfl⟩
theorem addO (g o j : Nat) : (⟨g, o, none⟩ : Addr).add j = ⟨g, o + j, none⟩ := by unfold Addr.add; split <;> simp_all
theorem frmC {w w' : World} (h : Frm (fun _ => False) w w') {a : Addr} {v : Value} (hc : w.cell? a = some v) : w'.cell? a = some v := by
  rw [← hc]
  exact World.cell?_of_block (h.block _ (World.block_lt_of_cell? w _ hc) id)
theorem reads_frm {w w' : World} {k : IntKind} {p : Option Addr} {n : Nat} {xs : List Int} (h : ReadsInt w k p n xs) (hf : Frm (fun _ => False) w w') : ReadsInt w' k p n xs := by
  obtain ⟨h1, h2, h3⟩ := h
  refine ⟨h1, h2, fun h0 => ?_⟩
  obtain ⟨a, ha, hc⟩ := h3 h0
  exact ⟨a, ha, fun j hj => frmC hf (hc j hj)⟩
theorem reads_mk {w : World} {g o n : Nat} {xs : List Int} (hl : n ≤ 9223372036854775807) (h : ∀ i, i < n → w.cell? ⟨g, o + i, none⟩ = some (.int .u8 (xs.getD i 0))) (hx : xs.length = n := by rfl) : ReadsInt w .u8 (some ⟨g, o, none⟩) n xs :=
  ⟨hx, hl, fun _ => ⟨_, rfl, fun i hi => by rw [addO]; exact h i hi⟩⟩
/-- Records that are read. -/
def RecsAt (w : World) (A : Option Addr) (rs : List Sg.Bytes) : Prop :=
  ∀ j (h : j < rs.length), ∃ a p c, A = some a ∧ w.cell? (a.add j) = some (.slice p rs[j].length c) ∧ rs[j].length ≤ c ∧ ReadsInt w .u8 p rs[j].length rs[j]
theorem RecsAt.frm {w w' : World} {A : Option Addr} {rs : List Sg.Bytes} (h : RecsAt w A rs) (hf : Frm (fun _ => False) w w') : RecsAt w' A rs := by
  intro j hj
  obtain ⟨a, p, c, h1, h2, h3, h4⟩ := h j hj
  exact ⟨a, p, c, h1, frmC hf h2, h3, reads_frm h4 hf⟩
theorem crcAll_snoc : ∀ (l : List Sg.Bytes) (s : Nat) (b : Sg.Bytes), Sg.crcAll s (l ++ [b]) = Sg.crcAdd (Sg.crcAll s l) b
  | [], s, b => rfl
  | a :: l, s, b => by simp only [List.cons_append, Sg.crcAll]; exact crcAll_snoc l _ b
theorem crcAll_lt : ∀ (l : List Sg.Bytes) (s : Nat), s < 4294967296 → Sg.crcAll s l < 4294967296
  | [], s, h => h
  | a :: l, s, h => by simp only [Sg.crcAll]; exact crcAll_lt l _ (Sg.crcAdd_lt _ _)
set_option maxHeartbeats 1000000 in
set_option maxRecDepth 100000 in
theorem crcSumOf_calls {B : Nat} {w : World} (h : CrcAt B w) (A : Option Addr) (c : Nat) (rs : List Sg.Bytes) (hx : RecsAt w A rs) (hl : rs.length ≤ 4611686018427387904) (hc : rs.length ≤ c) (hb : ∀ r, r ∈ rs → ∀ x, x ∈ r → 0 ≤ x ∧ x < 256) :
    Calls Tryz.prog 180 #[.slice A rs.length c] w fun e w' => e = .returned (.int .u32 (Sg.crcAll 0 rs : Nat)) ∧ ∃ q, w' = w.drewN q := by
  have HX := Lib.hid hx
  have HC := Lib.hid h
  have HB := Lib.hid hb
  clear hx h hb
  go_enter Tryz.func180, Tryz.ntmps180
  go_wp2
  go_loopw [3, 8] (fun x v wr => ∃ j q, v = .int .i64 (j : Nat) ∧ x = .int .u32 ((Sg.crcAll 0 (rs.take j) : Nat) : Int) ∧ j ≤ rs.length ∧ wr = w.drewN q) (fun _ v _ => rs.length - (intOf v).toNat)
  case atStart => exact ⟨0, 0, rfl, rfl, Nat.zero_le _, rfl⟩
  case round =>
    obtain ⟨j, q, rfl, rfl, hj, rfl⟩ := hrel
    by_cases hlt : j < rs.length
    · obtain ⟨a, p, cc, rfl, hca, hcc, hr⟩ := HX.out j hlt
      have hs := crcAll_lt (rs.take j) 0 (by decide)
      have hnx : Hid (Sg.crcAll 0 (rs.take (j + 1)) = Sg.crcAdd (Sg.crcAll 0 (rs.take j)) rs[j]) := by
        show _ = _
        rw [List.take_add_one, List.getElem?_eq_getElem hlt]
        exact crcAll_snoc _ _ _
      have K : Hid (Calls Tryz.prog 130 #[.int .u32 (Sg.crcAll 0 (rs.take j) : Nat), .slice p rs[j].length cc] (w.drewN q) fun e w' => e = .returned (.int .u32 ((Sg.crcAll 0 (rs.take (j + 1)) : Nat) : Int)) ∧ ∃ q', w' = (w.drewN q).drewN q') := by
        rw [hnx.out]
        exact crcAdd_calls (HC.out.frm ((Frm.refl (fun _ => False) w).drewN q) (fun _ h => h.elim)) _ hs p cc _ (reads_frm hr ((Frm.refl _ _).drewN q)) hcc (HB.out _ (List.getElem_mem hlt))
      clear hs hnx hr
      generalize rs[j].length = n at *
      generalize Sg.crcAll 0 (rs.take j) = s0 at *
      generalize hs1 : Sg.crcAll 0 (rs.take (j + 1)) = s1 at *
      have H1 := Lib.hid hs1
      clear hs1
      go_wp2_with (first | (go_at_call 130; (with_reducible refine K.out.mono ?_); rintro e w' ⟨rfl, q', rfl⟩))
      exact ⟨⟨j + 1, q + q', by go_num, by rw [H1.out], by omega, rfl⟩, by simp [intOf]; omega⟩
    · obtain rfl : j = rs.length := by omega
      rw [List.take_length]
      generalize hs : Sg.crcAll 0 rs = s at *
      have H1 := Lib.hid hs
      clear hs
      go_wp2
      go_ret
      rw [H1.out]
      exact ⟨rfl, _, rfl⟩
theorem make4 (W : World) : (Instr.makeSlice 36 (.int .i64 4) (.int .i64 4)).run Tryz.prog W = .ok (.slice (some ⟨W.heap.size, 0, none⟩) 4 4) (W.alloc (.cells #[.int .u8 0, .int .u8 0, .int .u8 0, .int .u8 0] 5)) := by
  obtain ⟨i, hi, hz, hz1, hz2⟩ := info_parts byteInfo
  have h := run_make (P := Tryz.prog) W 36 5 i (.int .u8 0) Tryz.underlying36 hi hz .i64 .i64 4 4 (by decide) (by decide) (by rw [hz2]; decide) (by decide)
  rw [hz1, show madeCells (Value.int .u8 0).cells (Int.toNat 4 * 1) = #[.int .u8 0, .int .u8 0, .int .u8 0, .int .u8 0] from by kernel_rfl] at h
  exact h
set_option maxHeartbeats 1000000 in
set_option maxRecDepth 100000 in
theorem blockSum_calls {B : Nat} {w : World} (h : CrcAt B w) (g o c : Nat) (xs : List Int) (hx : ReadsInt w .u8 (some ⟨g, o, none⟩) xs.length xs) (h5 : xs.length = 512) (hc : 512 ≤ c) (hb : ∀ x, x ∈ xs → 0 ≤ x ∧ x < 256) :
    Calls Tryz.prog 141 #[.slice (some ⟨g, o, none⟩) 512 c] w fun e w' => e = .returned (.int .u32 (Sg.crc (Sg.unsummed xs) : Nat)) ∧ Frm (fun _ => False) w w' := by
  have hcI : (512 : Int) ≤ (c : Int) := by omega
  have h14 : 14 ≤ c := by omega
  have h14I : (14 : Int) ≤ (c : Int) := by omega
  have hmk := make4
  have h18 : ¬ c = 18 := by omega
  have HX := Lib.hid hx
  have HC := Lib.hid h
  have HB := Lib.hid hb
  have H5 := Lib.hid h5
  clear hx h hb h5
  obtain ⟨WS, hWS⟩ : ∃ WS, WS = (w.alloc (.cells #[.int .u8 0, .int .u8 0, .int .u8 0, .int .u8 0] 5)).alloc (.cells #[.slice (some ⟨g, o, none⟩) 14 c, .slice (some ⟨w.heap.size, 0, none⟩) 4 4, .slice (some ⟨g, o + 18, none⟩) 494 (c - 18)] 36) := ⟨_, rfl⟩
  have hf : Frm (fun _ => False) w WS := by rw [hWS]; exact ((Frm.refl _ _).alloc _).alloc _
  have hrec : RecsAt WS (some ⟨w.heap.size + 1, 0, none⟩) [xs.take 14, Sg.zeros 4, xs.drop 18] := by
    have hq : w.heap.size + 1 = (w.alloc (.cells #[.int .u8 0, .int .u8 0, .int .u8 0, .int .u8 0] 5)).heap.size := by simp
    have h1 : WS.heap[w.heap.size + 1]? = some (.cells #[.slice (some ⟨g, o, none⟩) 14 c, .slice (some ⟨w.heap.size, 0, none⟩) 4 4, .slice (some ⟨g, o + 18, none⟩) 494 (c - 18)] 36 (0, 0)) := by rw [hWS, hq]; exact blk_alloc
    have h2 : WS.heap[w.heap.size]? = some (.cells #[.int .u8 0, .int .u8 0, .int .u8 0, .int .u8 0] 5 (0, 0)) := by rw [hWS]; exact (blk_alloc_lt (by simp)).trans blk_alloc
    obtain ⟨_, _, h3⟩ := HX.out
    obtain ⟨a, ha, hcl⟩ := h3 (by have := H5.out; omega)
    cases ha
    have h5 := H5.out
    have hg : ∀ i, i < 512 → WS.cell? ⟨g, o + i, none⟩ = some (.int .u8 (xs.getD i 0)) := fun i hi => by
      have := frmC hf (hcl i (by omega))
      rwa [addO] at this
    have r1 : ReadsInt WS .u8 (some ⟨g, o, none⟩) (xs.take 14).length (xs.take 14) := reads_mk (by simp; omega) fun i hi => by
      rw [List.length_take] at hi
      rw [hg i (by omega), List.getD_eq_getElem?_getD, List.getD_eq_getElem?_getD, List.getElem?_take_of_lt (by omega)]
    have r2 : ReadsInt WS .u8 (some ⟨w.heap.size, 0, none⟩) (Sg.zeros 4).length (Sg.zeros 4) := reads_mk (by simp [Sg.zeros]) fun i hi => by
      have hi : i < 4 := hi
      rw [Nat.zero_add]
      refine cell_of h2 ?_
      match i, hi with
      | 0, _ => rfl
      | 1, _ => rfl
      | 2, _ => rfl
      | 3, _ => rfl
    have r3 : ReadsInt WS .u8 (some ⟨g, o + 18, none⟩) (xs.drop 18).length (xs.drop 18) := reads_mk (by simp; omega) fun i hi => by
      rw [List.length_drop] at hi
      rw [Nat.add_assoc, hg (18 + i) (by omega), List.getD_eq_getElem?_getD, List.getD_eq_getElem?_getD, List.getElem?_drop]
    have l1 : (xs.take 14).length = 14 := by simp; omega
    have l3 : (xs.drop 18).length = 494 := by simp; omega
    intro j hj
    match j, hj with
    | 0, _ => exact ⟨_, _, c, rfl, by rw [addO]; exact cell_of h1 (by simp [l1]), by simp only [List.getElem_cons_zero, l1]; omega, r1⟩
    | 1, _ => exact ⟨_, _, 4, rfl, by rw [addO]; exact cell_of h1 (by simp [Sg.zeros]), by simp [Sg.zeros], r2⟩
    | 2, _ => exact ⟨_, _, c - 18, rfl, by rw [addO]; exact cell_of h1 (by simp [l3]), by show (xs.drop 18).length ≤ _; omega, r3⟩
  have hby : ∀ r, r ∈ [xs.take 14, Sg.zeros 4, xs.drop 18] → ∀ x, x ∈ r → 0 ≤ x ∧ x < 256 := by
    intro r hr x hx
    rcases List.mem_cons.1 hr with rfl | hr
    · exact HB.out x (List.mem_of_mem_take hx)
    rcases List.mem_cons.1 hr with rfl | hr
    · exact Sg.zeros_byte hx
    rcases List.mem_cons.1 hr with rfl | hr
    · exact HB.out x (List.mem_of_mem_drop hx)
    · cases hr
  have KS : Hid (∀ W', Frm (fun _ => False) WS W' → Calls Tryz.prog 180 #[.slice (some ⟨w.heap.size + 1, 0, none⟩) 3 3] W' fun e w' => e = .returned (.int .u32 (Sg.crc (Sg.unsummed xs) : Nat)) ∧ Frm (fun _ => False) w w') := by
    refine Lib.hid fun W' hW => ?_
    have K := crcSumOf_calls ((HC.out.frm hf (fun _ h => h.elim)).frm hW (fun _ h => h.elim)) (some ⟨w.heap.size + 1, 0, none⟩) 3 [xs.take 14, Sg.zeros 4, xs.drop 18] (hrec.frm hW) (by show 3 ≤ _; omega) (by show 3 ≤ 3; omega) hby
    rw [Sg.crcAll_block HB.out] at K
    refine K.mono ?_
    rintro e w' ⟨he, q, rfl⟩
    exact ⟨he, (hf.trans hW (fun _ _ h => h)).drewN q⟩
  rw [hWS] at KS
  generalize Sg.crc (Sg.unsummed xs) = s at *
  clear hf hrec hby hWS
  go_enter Tryz.func141, Tryz.ntmps141
  go_upto_region 1 with (fail)
  go_region_held3 (fun w' => True) (first | trivial | go_keep)
    (first
      | (go_at_call 180; (with_reducible refine (KS.out _ (by first | exact Frm.refl _ _ | exact (Frm.refl _ _).drew | exact (Frm.refl _ _).drew.drew)).mono ?_); rintro e w7 ⟨rfl, f7⟩; have HX7 := Lib.hid f7; clear f7))
  all_goals
    go_wp2
    first | go_ret3 | go_ret
    exact ⟨rfl, HX7.out⟩
end Go.Proofs.YtkmmlfphcfcbgaaGreatDoor.Dw

/- Walks: numbers put into bytes. -/
namespace Go.Proofs.YtkmmlfphcfcbgaaGreatDoor.Dw
open Go.RowKit Go.ChangeMaps Go.Proofs.YtkmmlfphcfcbgaaGreatDoor.Mp Go.Proofs.YtkmmlfphcfcbgaaGreatDoor.Dm Go.Proofs.YtkmmlfphcfcbgaaGreatDoor.Da
open Go.Proofs.YtkmmlfphcfcbgaaGreatDoorW.PrintWords (Kd ReadsInt)
set_option linter.unusedVariables false
set_option linter.unusedSimpArgs false
set_option linter.unusedSectionVars false
section
variable {w : World} {ops : Array Oper} {rest : List Oper} {o : Oper} {a : Act} {Q : Exit → Act → World → Prop}
/-- make([]byte, n, cap) -/
theorem wpl_make_bytes (hg : o.guard = none) (l c : Operand) (hop : o.op = Op.makeSlice 36 l c) (kl kc : IntKind) (L C : Int) (n cap : Nat) (hl : a.eval l = .int kl L) (hc : a.eval c = .int kc C) (hL : L = (n : Int)) (hC : C = (cap : Int)) (hn : n ≤ cap) (hm : cap ≤ 140737488355328)
    (hK : ∀ w', w'.ownsRow w.heap.size 5 1 (.slice (some ⟨w.heap.size, 0, none⟩) n cap) n (u8s (List.replicate n 0)) → Frm (fun _ => False) w w' → wpList Tryz.prog ops Q rest (a.put o.dst (.slice (some ⟨w.heap.size, 0, none⟩) n cap)) w') :
    wpList Tryz.prog ops Q (o :: rest) a w := by
  refine wpList_plain hg fun K hK' => ?_
  obtain ⟨i, hi, hz, hz1, hz2⟩ := info_parts byteInfo
  have hr := run_make (P := Tryz.prog) w 36 5 i _ Tryz.underlying36 hi hz kl kc n cap (by omega) (by omega) (by rw [hz2]; omega) (by omega)
  simp only [Int.toNat_natCast] at hr
  subst hL
  subst hC
  unfold Oper.wp
  simp [execOp, hop, hl, hc, hr, Result.andThen]
  have hmx : maxLen = 9223372036854775807 := by decide
  have e1 : ∀ m : Nat, (madeCells (Value.int .u8 0).cells m).toList = u8s (List.replicate m 0) := fun m => by
    apply List.ext_getElem
    · simp [u8s, madeCells, Value.cells]
    · intro i h1 h2
      simp [u8s, madeCells, Value.cells, Nat.mod_one]
  refine hK' _ _ (hK _ ⟨by simp [u8s], .inr ⟨w.heap.size, cap, madeCells (Value.int .u8 0).cells (cap * i.size), rfl, Nat.le_refl _, blk_alloc, hn, by omega, by rw [size_madeCells, hz1], ?_⟩⟩ ((Frm.refl _ _).alloc _))
  rw [e1, hz1]
  simp [u8s, List.take_replicate]
  omega
end
theorem le_get : ∀ (n x j : Nat), j < n → (Sg.le n x)[j]? = some ((x / 256 ^ j % 256 : Nat) : Int)
  | 0, _, _, h => absurd h (Nat.not_lt_zero _)
  | n + 1, x, 0, _ => by simp [Sg.le]
  | n + 1, x, j + 1, h => by
    rw [Sg.le, List.getElem?_cons_succ, le_get n (x / 256) j (by omega), Nat.div_div_eq_div_mul, Nat.pow_succ, Nat.mul_comm 256]
theorem made_nil {w : World} {B L : Nat} {v : Value} {xs : List Int} (h : w.ownsRow B 5 1 v L (u8s (List.replicate L 0))) (hl : xs.length = L) (hz : L = 0) : w.ownsRow B 5 1 v L (u8s xs) := by
  subst hz
  rw [List.eq_nil_of_length_eq_zero hl]
  exact h
set_option maxHeartbeats 1000000 in
set_option maxRecDepth 100000 in
theorem put_calls_ (w : World) (xs : List Int) (L : Nat) (hL : xs.length = L) (p : Option Addr) (cc : Nat) (hx : ReadsInt w .u8 p xs.length xs) (x n : Nat) (hx64 : x < 18446744073709551616) (hn : n ≤ 8) (hl : L ≤ 70368744177664) :
    Calls Tryz.prog 162 #[.slice p L cc, .int .u64 x, .int .i64 n] w fun e w' => e = .returned (.slice (some ⟨w.heap.size, 0, none⟩) (L + n) (L + n)) ∧
      w'.ownsRow w.heap.size 5 1 (.slice (some ⟨w.heap.size, 0, none⟩) (L + n) (L + n)) (L + n) (u8s (xs ++ Sg.le n x)) ∧ Frm (fun _ => False) w w' := by
  obtain ⟨i8, hi8, hz8, hz81, hz82⟩ := info_parts byteInfo
  have HX := Lib.hid hx
  have HL := Lib.hid hL
  clear hx hL
  obtain ⟨m, hm⟩ : ∃ m, m = L + n := ⟨_, rfl⟩
  have hmI : (L : Int) + (n : Int) = (m : Int) := by omega
  rw [← hm]
  have hmx : maxLen = 9223372036854775807 := by decide
  have hcp : Hid (L = 0) ∨ ∃ ad, p = some ad ∧ ∀ W, Frm (fun _ => False) w W → ∀ j u, (u8s xs)[j]? = some u → W.cell? (ad.add j) = some u := by
    by_cases h0 : L = 0
    · exact Or.inl (Lib.hid h0)
    · have h0' : 0 < xs.length := by have := HL.out; omega
      obtain ⟨ad, ha, _⟩ := HX.out.2.2 h0'
      refine Or.inr ⟨ad, ha, fun W hW j u hu => ?_⟩
      obtain ⟨_, _, h3⟩ := reads_frm HX.out hW
      obtain ⟨ad', ha', hc⟩ := h3 h0'
      rw [ha] at ha'
      cases ha'
      rw [u8s, List.getElem?_map] at hu
      obtain ⟨y, hy, rfl⟩ := Option.map_eq_some_iff.1 hu
      have hj := (List.getElem?_eq_some_iff.1 hy).1
      have := hc j hj
      rwa [List.getD_eq_getElem?_getD, hy] at this
  have HM := Lib.hid hm
  have hm1 : L ≤ m := by omega
  have hm2 : m ≤ 140737488355328 := by omega
  clear hm
  rcases hcp with hz | ⟨ad, rfl, hcp2⟩
  all_goals
    go_enter Tryz.func162, Tryz.ntmps162
    go_wp2_with (first
      | (at_make; refine wpl_make_bytes rfl _ _ rfl _ _ _ _ L m rfl rfl rfl rfl hm1 hm2 ?_; intro w1 hr1 hf1; have H1 := Lib.hid (And.intro hr1 hf1); clear hr1 hf1)
      | (refine wpList_copy_nothing rfl (.tmp 15) (.tmp 16) _ _ rfl 5 Tryz.underlying36 (by kernel_rfl) _ _ _ _ _ _ rfl rfl (show Nat.min L L = 0 by rw [hz.out]; rfl) ?_; have H2 : Hid (w1.ownsRow w.heap.size 5 1 (.slice (some ⟨w.heap.size, 0, none⟩) L m) L (u8s xs) ∧ Frm (fun _ => False) w w1) := Lib.hid ⟨made_nil H1.out.1 HL.out hz.out, H1.out.2⟩; clear H1)
      | (refine wpl_copy_bytes rfl (.tmp 15) (.tmp 16) rfl (ys := xs) HL.out rfl rfl (hcp2 _ H1.out.2) H1.out.1 (by simp) (by rw [HL.out]; exact Nat.le_refl _) (by rw [HL.out, Nat.zero_add]; exact Nat.le_refl _) ?_; intro w2 hr2 hg2 hs2; have H2 : Hid (w2.ownsRow w.heap.size 5 1 (.slice (some ⟨w.heap.size, 0, none⟩) L m) L (u8s xs) ∧ Frm (fun _ => False) w w2) := Lib.hid ⟨by simpa [HL.out] using hr2, H1.out.2.grown hg2 (fun k e hk => by have := Option.some.inj e; omega)⟩; clear hr2 hg2 hs2 H1))
    go_loopw [1, 7, 19] (fun y v iv wr => ∃ j k, iv = .int .i64 (j : Nat) ∧ j ≤ n ∧ k = L + j ∧ y = .int .u64 ((x / 256 ^ j : Nat) : Int) ∧ v = .slice (some ⟨w.heap.size, 0, none⟩) k m ∧ wr.ownsRow w.heap.size 5 1 v k (u8s (xs ++ (Sg.le n x).take j)) ∧ Frm (fun _ => False) w wr) (fun _ _ iv _ => n - (intOf iv).toNat)
    case atStart =>
      refine ⟨0, L, rfl, Nat.zero_le _, rfl, by simp, rfl, ?_, H2.out.2⟩
      rw [List.take_zero, List.append_nil]; exact H2.out.1
    case round =>
      obtain ⟨j, k, rfl, hj, hk, rfl, rfl, hrow, hfr⟩ := hrel
      have HK := Lib.hid (And.intro hk hfr)
      have hkm : k ≤ m := by have := HM.out; omega
      by_cases hlt : j < n
      · have hk1 : k + 1 ≤ m := by have := HM.out; omega
        have hkm2 : k + 1 ≤ maxLen := by omega
        have hb1 : (k + 1) * 1 ≤ 140737488355328 := by omega
        have hwr := hfr.size
        have hnx : Hid (u8s (xs ++ (Sg.le n x).take (j + 1)) = u8s (xs ++ (Sg.le n x).take j) ++ [.int .u8 ((x / 256 ^ j % 256 : Nat) : Int)]) := by
          show _ = _
          rw [List.take_add_one, le_get n x j hlt]
          simp [u8s]
        have hdv : Hid (x / 256 ^ (j + 1) = x / 256 ^ j / 256) := by
          show _ = _
          rw [Nat.pow_succ, Nat.div_div_eq_div_mul]
        have hyl : x / 256 ^ j < 18446744073709551616 := Nat.lt_of_le_of_lt (Nat.div_le_self _ _) hx64
        generalize x / 256 ^ j = y at *
        have HROW := Lib.hid hrow
        clear hk hfr hrow H2
        go_wp2_with (first
          | (at_builtin; refine wpList_append_fits _ rfl _ _ _ rfl w.heap.size 5 i8 1 Tryz.underlying36 hi8 hz81 w.heap.size k m _ rfl (HROW.out.alloc _) ⟨wr.heap.size, 0, none⟩ 1 1 [.int .u8 ((y % 256 : Nat) : Int)] rfl rfl (World.news_of_block (cs := #[.int .u8 ((y % 256 : Nat) : Int)]) (t := 5) (fr := (0, 0)) (heap_alloc_new wr _)) (by simp [Value.oneCell']) hk1 ?_; intro w4 hr4 hg4; have H4 := Lib.hid (And.intro hr4 hg4); clear hr4 hg4))
        refine ⟨⟨j + 1, k + 1, by go_num, by omega, by have := HK.out.1; omega, by rw [hdv.out]; simp, rfl, by rw [hnx.out]; exact H4.out.1, ?_⟩, by simp [intOf]; omega⟩
        exact ((HK.out.2.alloc _).grown H4.out.2 (fun k e hk => by have := Option.some.inj e; omega))
      · obtain rfl : j = n := by omega
        have hle : (Sg.le j x).take j = Sg.le j x := List.take_of_length_le (by rw [Sg.le_length]; exact Nat.le_refl _)
        rw [hle] at hrow
        have hkm' : Hid (k = m) := by have := HM.out; have := HK.out.1; exact Lib.hid (by omega)
        have hfr' := HK.out.2
        rw [hkm'.out] at hrow ⊢
        clear hk hfr
        go_wp2
        go_ret
        exact ⟨rfl, hrow, hfr'⟩
end Go.Proofs.YtkmmlfphcfcbgaaGreatDoor.Dw
