/- A part of the proof of diskDown_holds: Dn. No condition. -/
import Derived.Test.YtglhedahannjiaaGreatDoorC21

/- Walks: Truncate's do. -/
namespace Go.Proofs.YtglhedahannjiaaGreatDoor.Dw
open Go.RowKit Go.ChangeMaps Go.Proofs.YtglhedahannjiaaGreatDoor.Mp Go.Proofs.YtglhedahannjiaaGreatDoor.Dm Go.Proofs.YtglhedahannjiaaGreatDoor.Da
set_option linter.unusedVariables false
set_option linter.unusedSimpArgs false
set_option linter.unusedSectionVars false
/-- Sectors' numbers are small (so that their places are numbers). -/
structure FileS.Small (f : FileS) : Prop where
  seen : f.seen.length ≤ 4398046511104
  safe : f.safe.length ≤ 4398046511104
  badSeen : ∀ k, f.badSeen k = true → k < 9007199254740992
  badSafe : ∀ k, f.badSafe k = true → k < 9007199254740992
  waits : ∀ k, f.waits k = true → k < 9007199254740992
set_option maxHeartbeats 1000000 in
set_option maxRecDepth 100000 in
theorem truncate11 {B : Nat} {W : World} {b : Nat} {A : Adr} {lab : Nat → Option Lb} {D : Disk} (h : DiskAt B W b A lab D) (hw : WF D) (n : Name) (hex : (find D.now n).isSome = true) (hsm : ∀ f, f ∈ D.files → FileS.Small f) (k : Int) (hk0 : 0 ≤ k) (hk1 : k ≤ 4611686018427387904)
    (cd cn ck : Nat) (h1 : Cap W lab cd (dptr b)) (h2 : Cap W lab cn (.string n)) (h3 : Cap W lab ck (.int .i64 k)) :
    Calls Tryz.prog 114 #[.pointer (some ⟨cd, 0, none⟩), .pointer (some ⟨cn, 0, none⟩), .pointer (some ⟨ck, 0, none⟩)] W fun e W' => e = .returned (.tuple #[]) ∧ Ext B b lab W W' (D.onFile n (FileS.trunc k)) := by
  have q1 := h1.1
  have q2 := h2.1
  have q3 := h3.1
  obtain ⟨i, hi⟩ := Option.isSome_iff_exists.1 hex
  obtain ⟨f, hf⟩ := WF.file hw hi
  have hd : D.onFile n (FileS.trunc k) = D.modify i (FileS.trunc k) := by simp [Disk.onFile, hi]
  rw [hd]
  have r0 : W.cell? ⟨b, 0, none⟩ = some (.map (some A.nm)) := main_cell h.blk rfl
  obtain ⟨l', hp, hm⟩ := h.names
  have hl := look_names hp hw.nowN A n
  rw [hi] at hl
  have lk : ∀ nq, (Instr.lookup 85 (.map (some A.nm)) (.string n) false).run Tryz.prog (W.drewN nq) = .ok (.pointer (some ⟨(A.fa i).fb, 0, none⟩)) (W.drewN nq) := by
    intro nq
    have hm' : MapAt Value.string (W.drewN nq) A.nm (l'.map fun p => (p.1, fptr A p.2)) := hm.of_block rfl
    have := hm'.lookup kS Tryz.underlying85 (zP _) n false
    rw [this, hl]; rfl
  have F := h.files i f hf
  have hs := hsm f (List.mem_of_getElem? hf)
  clear hl hp hd hi hex hsm hm
  unfold dptr at q1
  have H := Lib.hid h
  have HF := Lib.hid hf
  have HS := Lib.hid hs
  clear h hf hs
  go_enter Tryz.func114, Tryz.ntmps114
  go_wp2
  go_quiet (fail)
  have FN : FileAt (W.drewN nq) lab i (A.fa i) f := F.same (fun _ _ _ _ => rfl)
  have DN : DiskAt B (W.drewN nq) b A lab D := H.out.same (fun _ _ _ => rfl) (Nat.le_refl _)
  have f1 : Frm (Ft lab) W (W.drewN nq) := (Frm.refl _ _).drewN _
  have c3 : Cap (W.drewN nq) lab ck (.int .i64 k) := ⟨h3.1, h3.2⟩
  clear lk F q1 q2 q3 r0 h1 h2 h3
  generalize W.drewN nq = Wn at *
  have q3 := c3.1
  have nsf : (A.fa i).sb ≠ (A.fa i).fb := ne_of_lab FN.lsb FN.lfb (by simp)
  have naf : (A.fa i).ab ≠ (A.fa i).fb := ne_of_lab FN.lab_ FN.lfb (by simp)
  have nwf : (A.fa i).wb ≠ (A.fa i).fb := ne_of_lab FN.lwb FN.lfb (by simp)
  have nas : (A.fa i).ab ≠ (A.fa i).sb := ne_of_lab FN.lab_ FN.lsb (by simp)
  have nws : (A.fa i).wb ≠ (A.fa i).sb := ne_of_lab FN.lwb FN.lsb (by simp)
  have nwa : (A.fa i).wb ≠ (A.fa i).ab := ne_of_lab FN.lwb FN.lab_ (by simp)
  have k1 := cutTo_calls (w := Wn.drew) (fb := (A.fa i).fb) (o := 1) (m := (A.fa i).sb) FN.blk rfl rfl FN.seen.row (fun e => by have := FN.seen.lab _ e; rw [FN.lfb] at this; cases this) FN.badSeen nsf k hk0 hk1 (Nat.le_trans HS.out.seen (by omega)) HS.out.badSeen
  have K1 := Lib.hid k1
  clear k1
  have HFN := Lib.hid FN
  clear FN
  go_wp2_with fail
  go_still_tail 4, (by kernel_rfl)
  change wpList _ _ _ _ _ Wn.drew
  go_wp2_with fail
  refine K1.out.mono ?_
  rintro e W1 ⟨rfl, v1, e1, hb1, hr1, hs1, hf1⟩
  have F := HFN.out
  have hlab : ∀ x p, lab x = some p → x < Wn.heap.size := fun x p hl => by
    have := (H.out.base x p hl).2
    exact Nat.lt_of_lt_of_le this f1.size
  have hckl := c3.lt
  have nck : ck ≠ (A.fa i).fb ∧ ck ≠ (A.fa i).sb ∧ ck ≠ (A.fa i).ab ∧ ck ≠ (A.fa i).wb := by
    refine ⟨?_, ?_, ?_, ?_⟩ <;> intro e
    · have := c3.2; rw [e, F.lfb] at this; cases this
    · have := c3.2; rw [e, F.lsb] at this; cases this
    · have := c3.2; rw [e, F.lab_] at this; cases this
    · have := c3.2; rw [e, F.lwb] at this; cases this
  obtain ⟨g1, g2, g3, g4⟩ := nck
  have z1 : W1.cell? ⟨ck, 0, none⟩ = some (.int .i64 k) := (hf1.cell hckl (fun e => e.elim g1 g2)).trans q3
  have hadW1 : ∀ g, (A.fa i).ad.ownBlock = some g → W1.heap[g]? = Wn.heap[g]? := fun g hg => hf1.block g (hlab _ _ (F.safe.lab g hg)) (fun e => e.elim (ne_of_lab (F.safe.lab g hg) F.lfb (by simp)) (ne_of_lab (F.safe.lab g hg) F.lsb (by simp)))
  have k2 := cutTo_calls (w := W1.drew) (fb := (A.fa i).fb) (o := 3) (m := (A.fa i).ab) hb1 rfl rfl (ownsRow.same F.safe.row hadW1) (fun e => by have := F.safe.lab _ e; rw [F.lfb] at this; cases this)
    (F.badSafe.same (w' := W1.drew) (hf1.block _ (hlab _ _ F.lab_) (fun e => e.elim naf nas))) naf k hk0 hk1 (Nat.le_trans HS.out.safe (by omega)) HS.out.badSafe
  have K2 := Lib.hid k2
  have HR1 := Lib.hid (And.intro hr1 (And.intro hs1 (And.intro hf1 hadW1)))
  clear k2 hr1 hs1 hf1 hadW1 hb1
  go_wp2_with fail
  go_still_tail 4, (by kernel_rfl)
  change wpList _ _ _ _ _ W1.drew
  go_wp2_with fail
  refine K2.out.mono ?_
  rintro e W2 ⟨rfl, v2, e2, hb2, hr2, hs2, hf2⟩
  obtain ⟨hr1, hs1, hf1, hadW1⟩ := HR1.out
  have fb2 : (A.fa i).fb < W1.heap.size := Nat.lt_of_lt_of_le (hlab _ _ F.lfb) hf1.size
  have fb3 : (A.fa i).fb < W2.heap.size := Nat.lt_of_lt_of_le fb2 hf2.size
  have wb1 := hlab _ _ F.lwb
  have wb2 : (A.fa i).wb < W1.heap.size := Nat.lt_of_lt_of_le wb1 hf1.size
  have wb3 : (A.fa i).wb < W2.heap.size := Nat.lt_of_lt_of_le wb2 hf2.size
  have ck2 : ck < W1.heap.size := Nat.lt_of_lt_of_le hckl hf1.size
  have ck3 : ck < W2.heap.size := Nat.lt_of_lt_of_le ck2 hf2.size
  have z2 : W2.cell? ⟨ck, 0, none⟩ = some (.int .i64 k) := (hf2.cell ck2 (fun e => e.elim g1 g3)).trans z1
  have y5 : W2.cell? ⟨(A.fa i).fb, 5, none⟩ = some (.map (some (A.fa i).wb)) := cell_of hb2 rfl
  obtain ⟨ks, hks, hnd, hmem⟩ := F.waits
  change MapAt (Value.int .i64) Wn (A.fa i).wb (ent ks) at hks
  have M2 : MapAt (Value.int .i64) W2 (A.fa i).wb (ent ks) := hks.of_block ((hf2.block _ wb2 (fun e => e.elim nwf nwa)).trans (hf1.block _ wb1 (fun e => e.elim nwf nws)))
  have fin : ∀ w3, Frm (fun x => x = (A.fa i).wb) W2 w3 → SetAt w3 (A.fa i).wb (cutBad f.waits k) → Ext B b lab W w3 (D.modify i (FileS.trunc k)) := by
    intro w3 hf3 hS3
    have sb1 := hlab _ _ F.lsb
    have sb2 : (A.fa i).sb < W1.heap.size := Nat.lt_of_lt_of_le sb1 hf1.size
    have sb3 : (A.fa i).sb < W2.heap.size := Nat.lt_of_lt_of_le sb2 hf2.size
    have ab3 : (A.fa i).ab < W2.heap.size := Nat.lt_of_lt_of_le (Nat.lt_of_lt_of_le (hlab _ _ F.lab_) hf1.size) hf2.size
    have off : ∀ g p, lab g = some p → p ≠ .file i → p ≠ .ab i → p ≠ .wb i → w3.heap[g]? = W1.heap[g]? := fun g p hl p1 p2 p3 =>
      (hf3.block g (Nat.lt_of_lt_of_le (Nat.lt_of_lt_of_le (hlab g p hl) hf1.size) hf2.size) (ne_of_lab hl F.lwb p3)).trans (hf2.block g (Nat.lt_of_lt_of_le (hlab g p hl) hf1.size) (fun e => e.elim (ne_of_lab hl F.lfb p1) (ne_of_lab hl F.lab_ p2)))
    refine Ext.trans f1 (fun _ _ h => h) (DN.truncFile HF.out k e1 e2 ((hf3.block _ fb3 (Ne.symm nwf)).trans hb2) (hr1 w3 ?_) (hr2 w3 ?_) (hs1.same ?_) (hs2.same ?_) hS3 ?_)
    · intro g hg
      have hl := F.seen.lab g hg
      exact (off g _ hl (by simp) (by simp) (by simp)).trans (hf1.block g (hlab g _ hl) (fun e => e.elim (ne_of_lab hl F.lfb (by simp)) (ne_of_lab hl F.lsb (by simp))))
    · intro g hg
      exact off g _ (F.safe.lab g hg) (by simp) (by simp) (by simp)
    · exact off _ _ F.lsb (by simp) (by simp) (by simp)
    · exact hf3.block _ ab3 (Ne.symm nwa)
    · have t1 : Frm (fun x => x = (A.fa i).fb ∨ x = (A.fa i).sb ∨ x = (A.fa i).ab ∨ x = (A.fa i).wb) Wn W1 := ((Frm.refl (fun _ => False) Wn).drew.mono (fun _ _ h => h.elim)).trans hf1 (fun x _ (e : x = (A.fa i).fb ∨ x = (A.fa i).sb) => e.elim .inl (fun e => .inr (.inl e)))
      exact (t1.drew.trans hf2 (fun x _ (e : x = (A.fa i).fb ∨ x = (A.fa i).ab) => e.elim .inl (fun e => .inr (.inr (.inl e))))).trans hf3 (fun x _ e => .inr (.inr (.inr e)))
  have FIN := Lib.hid fin
  have HMem := Lib.hid hmem
  clear fin hr1 hs1 hf1 hadW1 hr2 hs2 hf2 hb2 hmem hks z1 q3 F
  go_wp2_with (first | (at_range; refine wpl_range _ rfl _ rfl Tryz.underlying100 rfl M2 ?_; intro W3 hi2 hg2 hs2))
  have I2 : CutInv W2 W3 (A.fa i).wb W2.heap.size k ks ks ks := ⟨(Frm.of_grown hg2).mono (fun k _ e => by simp at e), hi2, hnd, hnd, fun k => ⟨fun h => ⟨h, .inl h⟩, fun h => h.1⟩, fun _ h => h⟩
  have HI := Lib.hid I2
  clear I2 hi2 hg2 hs2 M2
  go_frame
  go_loopw [] (fun wr => ∃ ks' tk, CutInv W2 wr (A.fa i).wb W2.heap.size k ks ks' tk) (fun wr => leftIn wr W2.heap.size (A.fa i).wb)
  case atStart => exact ⟨ks, ks, HI.out⟩
  case round =>
    obtain ⟨ks', tk, I⟩ := hrel
    have hsz : W2.heap.size < wr.heap.size := by
      obtain ⟨es, cl, sn, _, hh, _⟩ := I.iter
      exact blk_lt hh
    have II := Lib.hid I
    have hI := I.iter
    have x5 : wr.cell? ⟨(A.fa i).fb, 5, none⟩ = some (.map (some (A.fa i).wb)) := (I.frm.cell fb3 (Ne.symm nwf)).trans y5
    have x6 : wr.cell? ⟨ck, 0, none⟩ = some (.int .i64 k) := (I.frm.cell ck3 g4).trans z2
    have hleft := I.iter.left
    clear I
    by_cases h0 : tk = []
    · subst h0
      go_wp2_with (first | (at_next; refine wpl_next _ rfl _ rfl rfl hI (fun h0 => ?_) (fun y vv todo' w1 hp hi1 hg1 hs1 hen => absurd hp.length_eq (by simp [ent]))))
      go_end0
      refine ⟨rfl, FIN.out _ II.out.frm ⟨ks', II.out.iter.map, II.out.nd, fun x => ?_⟩⟩
      rw [II.out.mem x]
      unfold cutBad
      rw [HMem.out x]
      constructor
      · rintro ⟨⟨h1, h2⟩, h3⟩
        refine ⟨h1, ?_⟩
        have h4 : x * 512 < k := by simpa using h3
        rw [h2]; simp; omega
      · rintro ⟨h1, h2⟩
        simp only [Bool.and_eq_true, decide_eq_true_eq] at h2
        exact ⟨⟨h1, h2.1⟩, .inr (by omega)⟩
    · go_wp2_with (first
        | (at_next; refine wpl_next _ rfl _ rfl rfl hI (fun h0x => absurd (List.map_eq_nil_iff.1 h0x) h0) (fun y vv todo' w1 hp hi1 hg1 hs1 hen => ?_); obtain ⟨rfl, tk', rfl, hp'⟩ := ent_perm hp; have hyk := (HMem.out y).1 (II.out.sub y (hp'.mem_iff.2 List.mem_cons_self)); have hyS := HS.out.waits _ hyk.2; have hy0 : 0 ≤ y := hyk.1; have hy1 : y < 9007199254740992 := (by omega); have hyt : y ∉ (ent tk').map (·.1) := (by simpa [ent, Function.comp_def] using (List.nodup_cons.1 (hp'.nodup_iff.1 II.out.ndt)).1); have x7 := (hg1.cell_far ⟨(A.fa i).fb, 5, none⟩ (Nat.lt_of_lt_of_le fb3 II.out.frm.size) (fun e => by have : (A.fa i).fb = W2.heap.size := Option.some.inj e; omega)).trans x5; have x8 := (hg1.cell_far ⟨ck, 0, none⟩ (Nat.lt_of_lt_of_le ck3 II.out.frm.size) (fun e => by have : ck = W2.heap.size := Option.some.inj e; omega)).trans x6; have HP' := Lib.hid hp'; clear hp' hp hyk hyS; by_cases hge : k ≤ y * 512)
        | (at_delete; refine wpl_delete_iter _ rfl _ _ rfl kI Tryz.underlying100 y rfl rfl hi1 hyt (fun w2 hi2 hg2 hs2 => ?_)))
      · have fr := (II.out.frm.grown hg1 (fun x e hk => by have := Option.some.inj e; omega)).grown hg2 (fun x e _ => (Option.some.inj e).symm)
        refine ⟨⟨_, _, _, _, _, _, _, _, _, _, _, _, _, _, ⟨_, tk', II.out.gone HP'.out (by omega) fr hi2⟩, rfl⟩, ?_⟩
        rw [hi2.left, hleft]
        have := HP'.out.length_eq
        simp [ent] at this ⊢
        omega
      · have fr := II.out.frm.grown hg1 (fun x e hk => by have := Option.some.inj e; omega)
        refine ⟨⟨ks', tk', II.out.kept HP'.out (by omega) fr hi1⟩, ?_⟩
        rw [hi1.left, hleft]
        have := HP'.out.length_eq
        simp [ent] at this ⊢
        omega
end Go.Proofs.YtglhedahannjiaaGreatDoor.Dw
