/- A part of the proof of segmentMemoryUpto_holds: Dc. No condition. -/
import Derived.StillTailTactics
import Derived.Deep.AppendLies
import Derived.Deep.RegionLaw
import Derived.Test.YtkmmlfphcfcbgaaGreatDoorC11

/- Walks: Create. -/
namespace Go.Proofs.YtkmmlfphcfcbgaaGreatDoor.Dw
open Go.RowKit Go.ChangeMaps Go.Proofs.YtkmmlfphcfcbgaaGreatDoor.Mp Go.Proofs.YtkmmlfphcfcbgaaGreatDoor.Dm Go.Proofs.YtkmmlfphcfcbgaaGreatDoor.Da
set_option linter.unusedVariables false
set_option linter.unusedSimpArgs false
set_option linter.unusedSectionVars false
set_option maxRecDepth 100000 in
theorem newFile_calls {B : Nat} {w : World} {b : Nat} {A : Adr} {lab : Nat → Option Lb} {D : Disk} (h : DiskAt B w b A lab D) (hB : D.files.length < 4611686018427387904) :
    Calls Tryz.prog 73 #[dptr b] w fun e w' => e = .returned (.pointer (some ⟨w.heap.size + 3, 0, none⟩)) ∧ w' = wNew w b D.files.length := by
  have hmm := @run_makeMap Tryz.prog
  have hc : w.cell? ⟨b, 3, none⟩ = some (.int .i64 D.files.length) := main_cell h.blk rfl
  have hf : w.frozen? ⟨b, 3, none⟩ = false := frozen_of h.blk
  unfold dptr
  go_enter Tryz.func73, Tryz.ntmps73
  go_wp2
  go_ret
  exact ⟨rfl, rfl⟩
/-- What a closure has captured: a variable in a block of its own. -/
def Cap (w : World) (lab : Nat → Option Lb) (c : Nat) (v : Value) : Prop := w.cell? ⟨c, 0, none⟩ = some v ∧ lab c = none
theorem Cap.lt {w : World} {lab : Nat → Option Lb} {c : Nat} {v : Value} (h : Cap w lab c v) : c < w.heap.size := World.block_lt_of_cell? w _ h.1
theorem Cap.frm {w w' : World} {lab : Nat → Option Lb} {c : Nat} {v : Value} (h : Cap w lab c v) (hf : Frm (Ft lab) w w') : w'.cell? ⟨c, 0, none⟩ = some v :=
  (hf.cell h.lt (by unfold Ft; rw [h.2]; simp)).trans h.1
theorem changeInfo : (Tryz.prog.info? 135).map (fun i => (i.zero, i.size, i.bytes)) = some (some (.agg #[.string ⟨#[]⟩, .string ⟨#[]⟩, .pointer none]), 3, 40) := by kernel_rfl
set_option maxHeartbeats 1000000 in
set_option maxRecDepth 100000 in
theorem create11 {B : Nat} {W : World} {b : Nat} {A : Adr} {lab : Nat → Option Lb} {D : Disk} (h : DiskAt B W b A lab D) (hw : WF D) (n : Name) (cd cn : Nat) (h1 : Cap W lab cd (dptr b)) (h2 : Cap W lab cn (.string n))
    (hB : D.files.length < 4611686018427387904) (hC : D.changes.length < 1099511627776) :
    Calls Tryz.prog 72 #[.pointer (some ⟨cd, 0, none⟩), .pointer (some ⟨cn, 0, none⟩)] W fun e W' => e = .returned (.tuple #[]) ∧ Ext B b lab W W' (D.doCreate n) := by
  have q1 := h1.1
  obtain ⟨g1, g2, g3⟩ := h.newFile hw
  have H := Lib.hid h
  have r1 := h1.frm g2
  have r2 := h2.frm g2
  have G := Lib.hid (And.intro g1 (And.intro g2 g3))
  have r0 : (wNew W b D.files.length).cell? ⟨b, 0, none⟩ = some (.map (some A.nm)) := main_cell g1.blk rfl
  obtain ⟨l', hp, hm⟩ := g1.names
  have HP := Lib.hid hp
  have hfp : fptr (A.withFile D.files.length (newFAdr W.heap.size)) D.files.length = .pointer (some ⟨W.heap.size + 3, 0, none⟩) := by simp [fptr, Adr.withFile, newFAdr]
  have HF := Lib.hid hfp
  clear g1 g2 g3 hp hfp
  unfold dptr at q1 r1
  go_enter Tryz.func72, Tryz.ntmps72
  go_wp2_with fail
  refine (newFile_calls H.out hB).mono ?_
  rintro e w1 ⟨rfl, rfl⟩
  generalize hW1 : wNew W b D.files.length = W1 at *
  clear hW1
  go_wp2_with fail
  go_still_tail 6, (by kernel_rfl)
  change wpList _ _ _ _ _ W1.drew
  refine wpl_update _ rfl _ _ _ rfl kS Tryz.underlying99 n rfl rfl hm ?_
  intro W2 hm2 hg2 hs2
  obtain ⟨l2, hp2, hl2⟩ := setL_names HP.out hw.nowN (A.withFile D.files.length (newFAdr W.heap.size)) n D.files.length
  have G2 : DiskAt B W2 b (A.withFile D.files.length (newFAdr W.heap.size)) (newLab lab D.files.length W.heap.size) { D with files := D.files ++ [FileS.new], now := put D.now n D.files.length } ∧ Frm (Ft (newLab lab D.files.length W.heap.size)) W1 W2 := by
    have e : setL (l'.map fun p => (p.1, fptr (A.withFile D.files.length (newFAdr W.heap.size)) p.2)) n (.pointer (some ⟨W.heap.size + 3, 0, none⟩)) = l2.map fun p => (p.1, fptr (A.withFile D.files.length (newFAdr W.heap.size)) p.2) := by rw [← HF.out]; exact hl2
    have hm3 : MapAt Value.string W2 A.nm (l2.map fun p => (p.1, fptr (A.withFile D.files.length (newFAdr W.heap.size)) p.2)) := by rw [← e]; exact hm2
    exact G.out.1.setNow (w' := W2) ⟨l2, hp2, hm3⟩ ⟨hg2.os, hg2.tape, hg2.output, hg2.size, hg2.block⟩
  clear hm2 hg2 hs2 hl2 hp2 hm r0 r1 r2
  have s1 := h1.frm (G.out.2.1.trans G2.2 G.out.2.2)
  have s2 := h2.frm (G.out.2.1.trans G2.2 G.out.2.2)
  unfold dptr at s1
  have s3 : W2.cell? ⟨b, 2, none⟩ = some A.wv := main_cell G2.1.blk rfl
  have sf : W2.frozen? ⟨b, 2, none⟩ = false := frozen_of G2.1.blk
  have GG := Lib.hid G2
  clear G2
  have hown := GG.out.1.waiting.row
  have ab : A.wv.ownBlock ≠ some b := fun e => by have := GG.out.1.waiting.lab b e; rw [GG.out.1.lb] at this; cases this
  have acd : A.wv.ownBlock ≠ some cd := fun e => by have := H.out.waiting.lab cd e; rw [h1.2] at this; cases this
  have acn : A.wv.ownBlock ≠ some cn := fun e => by have := H.out.waiting.lab cn e; rw [h2.2] at this; cases this
  have lb := World.block_lt_of_cell? W2 _ s3
  have lcd := World.block_lt_of_cell? W2 _ s1
  have lcn := World.block_lt_of_cell? W2 _ s2
  have hmx : maxLen = 9223372036854775807 := by decide
  have hn1 : D.changes.length + 1 ≤ maxLen := by omega
  have hb1 : (D.changes.length + 1) * 40 ≤ 140737488355328 := by omega
  obtain ⟨i0, hi0, hz0, hz1, hz2⟩ := info_parts changeInfo
  clear hmx
  have k1 := cell_drew (cell_alloc (o := .cells #[.string ⟨#[]⟩, .string n, .pointer (some ⟨W.heap.size + 3, 0, none⟩)] 135) s1)
  have k2 := frozen_drew (frozen_alloc (o := .cells #[.string ⟨#[]⟩, .string n, .pointer (some ⟨W.heap.size + 3, 0, none⟩)] 135) lb sf)
  have k3 := cell_drew (cell_alloc (o := .cells #[.string ⟨#[]⟩, .string n, .pointer (some ⟨W.heap.size + 3, 0, none⟩)] 135) s3)
  have k4 := cell_drew (cell_alloc (o := .cells #[.string ⟨#[]⟩, .string n, .pointer (some ⟨W.heap.size + 3, 0, none⟩)] 135) s2)
  have KEEP0 := Lib.hid (And.intro k1 (And.intro k3 (And.intro k4 k2)))
  clear k1 k2 k3 k4
  have hfin : Hid (∀ gg cap w1, w1.ownsRow 0 135 3 (.slice (some ⟨gg, 0, none⟩) (D.changes.length + 1) cap) (D.changes.length + 1) (D.changes.flatMap (chgCells (A.withFile D.files.length (newFAdr W.heap.size))) ++ [.string ⟨#[]⟩, .string n, .pointer (some ⟨W.heap.size + 3, 0, none⟩)]) →
      ((W2.alloc (.cells #[.string ⟨#[]⟩, .string n, .pointer (some ⟨W.heap.size + 3, 0, none⟩)] 135)).drew).grownBy w1 A.wv.ownBlock → (A.wv.ownBlock = some gg ∨ gg = W2.heap.size + 1) → gg < w1.heap.size →
      Ext B b lab W (w1.setCell ⟨b, 2, none⟩ (.slice (some ⟨gg, 0, none⟩) (D.changes.length + 1) cap)) (D.doCreate n)) := by
    intro gg cap w1 ho hg hat hlt
    obtain ⟨d1, d2, d3⟩ := GG.out.1.setWaiting (w1 := w1) (v' := .slice (some ⟨gg, 0, none⟩) (D.changes.length + 1) cap) (cs := D.changes ++ [⟨none, some (n, D.files.length)⟩])
      (by simpa [chgCells, HF.out] using ho) (grown_alloc hg) (by
        rcases hat with h0 | h0
        · exact .inl h0.symm
        · refine .inr fun g e => ?_
          have : gg = g := by simpa [Value.ownBlock] using e
          omega)
    exact Ext.trans (G.out.2.1.trans GG.out.2 G.out.2.2) (fun k hk hl => G.out.2.2 k hk hl) (Ext.trans d2 d3 (Ext.refl d1))
  go_wp2_with fail
  have hwn := (World.news_of_block (cs := #[.string ⟨#[]⟩, .string n, .pointer (some ⟨W.heap.size + 3, 0, none⟩)]) (t := 135) (fr := (0, 0)) (heap_alloc_new W2 _))
  have HWN := Lib.hid hwn
  clear hwn
  have HOWN := Lib.hid ((hown.alloc (.cells #[.string ⟨#[]⟩, .string n, .pointer (some ⟨W.heap.size + 3, 0, none⟩)] 135)).drew)
  clear hown
  go_region_law ((refine step_append_lies _ (by rfl) _ _ _ (by rfl) 0 135 i0 _ 3 40 Tryz.underlying100 hi0 hz0 hz1 hz2 rfl (by omega) A.wv D.changes.length _ (by rfl) HOWN.out ⟨W2.heap.size, 0, none⟩ 1 1 [.string ⟨#[]⟩, .string n, .pointer (some ⟨W.heap.size + 3, 0, none⟩)] (by rfl) (by rfl) HWN.out (by simp [Value.oneCell']) (by omega) hn1 hb1 (by simp) (W2.heap.size + 1) (by simp) ?_; intro gg cap w1 hown1 hgrow hat hlt; have z1 := (hgrow.cell_far ⟨b, 2, none⟩ (by simp; omega) (Ne.symm ab)).trans (cell_drew (cell_alloc s3)); have z2 := (hgrow.frozen_far ⟨b, 2, none⟩ (by simp; omega) (Ne.symm ab)).trans (frozen_drew (frozen_alloc lb sf)); have z3 := (hgrow.cell_far ⟨cd, 0, none⟩ (by simp; omega) (Ne.symm acd)).trans (cell_drew (cell_alloc s1)); have z4 := (hgrow.cell_far ⟨cn, 0, none⟩ (by simp; omega) (Ne.symm acn)).trans (cell_drew (cell_alloc s2))))
  all_goals
    go_end0
    exact ⟨rfl, hfin.out gg cap w1 hown1 hgrow hat hlt⟩
end Go.Proofs.YtkmmlfphcfcbgaaGreatDoor.Dw
