/- A part of the proof of diskDown_holds: DeTruncate, Ff. No condition. -/
import Derived.Test.YtglhedahannjiaaGreatDoorC22

/- Truncate, whole (printed by wip/tools/wrap.py). -/
namespace Go.Proofs.YtglhedahannjiaaGreatDoor.Dw
open Go.RowKit Go.ChangeMaps Go.Proofs.YtglhedahannjiaaGreatDoor.Mp Go.Proofs.YtglhedahannjiaaGreatDoor.Dm Go.Proofs.YtglhedahannjiaaGreatDoor.Da
set_option linter.unusedVariables false
set_option linter.unusedSimpArgs false
set_option linter.unusedSectionVars false
set_option maxHeartbeats 1000000 in
set_option maxRecDepth 100000 in
theorem truncate_calls {B : Nat} {w : World} {b : Nat} {A : Adr} {lab : Nat → Option Lb} {D : Disk} {eb : Nat → Addr} {L : List Err} (h : DiskAt B w b A lab D) (he : ErrsAt B w eb L) (hw : WF D) (hb : Bnd D) (n : Name) (k : Int) (hk : -9223372036854775808 ≤ k ∧ k ≤ 9223372036854775807) (hsm : ∀ f, f ∈ D.files → FileS.Small f) :
    Calls Tryz.prog 83 #[dptr b, .string n, .int .i64 k] w fun e W' => e = .returned (errV eb (D.truncate n k).1) ∧ Ext B b lab w W' (D.truncate n k).2 := by
  have hlt : ∀ k p, lab k = some p → k < w.heap.size := fun k p hl => (h.base k p hl).2
  have l0 : ∀ i, lab (w.heap.size + i) = none := by
    intro i
    rcases hc : lab (w.heap.size + i) with _ | p
    · rfl
    · have := hlt _ p hc; omega
  have key : ∀ W0, W0 = (((w.alloc (.cells #[dptr b] 25)).alloc (.cells #[.string n] 9)).alloc (.cells #[.int .i64 k] 3)) →
      Calls Tryz.prog 47 #[dptr b, .func (.func 113) #[] #[.pointer (some ⟨w.heap.size, 0, none⟩), .pointer (some ⟨w.heap.size + 1, 0, none⟩), .pointer (some ⟨w.heap.size + 1 + 1, 0, none⟩)]] W0 fun e W' => e = .returned (errV eb (D.truncate n k).1) ∧ Ext B b lab w W' (D.truncate n k).2 := by
    intro W0 hW0
    have h0 : DiskAt B W0 b A lab D := by rw [hW0]; exact (((h.alloc _).alloc _).alloc _)
    have he0 : ErrsAt B W0 eb L := by rw [hW0]; exact (((he.alloc _).alloc _).alloc _)
    have f0 : Frm (Ft lab) w W0 := by rw [hW0]; exact ((((Frm.refl _ _).alloc _).alloc _).alloc _)
    have c0 : Cap W0 lab w.heap.size (dptr b) := ⟨by rw [hW0]; exact (cell_alloc (cell_alloc (cell_of blk_alloc rfl))), l0 0⟩
    have c1 : Cap W0 lab (w.heap.size + 1) (.string n) := ⟨by
      rw [hW0, show w.heap.size + 1 = (w.alloc (.cells #[dptr b] 25)).heap.size by simp only [World.size_alloc]]
      exact (cell_alloc (cell_of blk_alloc rfl)), l0 1⟩
    have c2 : Cap W0 lab (w.heap.size + 1 + 1) (.int .i64 k) := ⟨by
      rw [hW0, show w.heap.size + 1 + 1 = ((w.alloc (.cells #[dptr b] 25)).alloc (.cells #[.string n] 9)).heap.size by simp only [World.size_alloc]]
      exact (cell_of blk_alloc rfl), l0 2⟩
    have run := run_calls h0 he0 hb.count hb.since 113 #[.pointer (some ⟨w.heap.size, 0, none⟩), .pointer (some ⟨w.heap.size + 1, 0, none⟩), .pointer (some ⟨w.heap.size + 1 + 1, 0, none⟩)] (fun W => by kernel_rfl) (D.refuseTrunc n k) false 114
      #[.pointer (some ⟨w.heap.size, 0, none⟩), .pointer (some ⟨w.heap.size + 1, 0, none⟩), .pointer (some ⟨w.heap.size + 1 + 1, 0, none⟩)] (fun W => by kernel_rfl) (.nilFunc) (Disk.onFile n (FileS.trunc k)) (none)
      (by
        intro W hx
        obtain ⟨A1, lab1, g1, g2, g3⟩ := hx
        refine (truncate1 g1 (he0.frm g2 (Ft.low h0)) hw.tick n k _ _ _ hk (c0.frm g2) (c1.frm g2) (c2.frm g2)).mono ?_
        rintro e W' ⟨rfl, hf⟩
        exact ⟨rfl, Ext.keep ⟨A1, lab1, g1, g2, g3⟩ hf (fun _ _ h => h)⟩)
      (by
        intro h00 W D1 hD1 hx
        obtain ⟨A1, lab1, g1, g2, g3⟩ := hx
        have hw1 : WF D1 := by
          rcases hD1 with rfl | ⟨_, rfl⟩
          · exact hw.tick
          · exact hw.tick.dark
        have hb1 : D1.files.length < 4611686018427387904 ∧ D1.changes.length < 1099511627776 := by rcases hD1 with rfl | ⟨_, rfl⟩ <;> exact ⟨hb.files, hb.changes⟩
        have hex : (find D1.now n).isSome = true := by
          have e : D1.now = D.now := by rcases hD1 with rfl | ⟨_, rfl⟩ <;> rfl
          rw [e]; exact gone_zero (by have := h00; unfold Disk.refuseTrunc at this; split at this; exact this; rename_i hc; exact Decidable.not_not.1 hc)
        have hsm1 : ∀ f, f ∈ D1.files → FileS.Small f := by
          have e : D1.files = D.files := by rcases hD1 with rfl | ⟨_, rfl⟩ <;> rfl
          rw [e]; exact hsm
        have hk2 : 0 ≤ k ∧ k ≤ 4611686018427387904 := trunc_bound hb.len h00
        refine (truncate11 g1 hw1 n hex hsm1 k hk2.1 hk2.2 _ _ _ (c0.ext (B := B) (b := b) g2 g3) (c1.ext (B := B) (b := b) g2 g3) (c2.ext (B := B) (b := b) g2 g3)).mono ?_
        rintro e W' ⟨rfl, hx⟩
        exact ⟨rfl, Ext.trans g2 g3 hx⟩)
      (.inl ⟨rfl, rfl⟩)
    refine run.mono ?_
    rintro e W' ⟨rfl, hx⟩
    exact ⟨rfl, Ext.trans f0 (fun _ _ h => h) hx⟩
  unfold dptr at key ⊢
  have KEY := Lib.hid key
  clear key l0
  go_enter Tryz.func83, Tryz.ntmps83
  go_wp2_with fail
  refine (KEY.out _ rfl).mono ?_
  rintro e W' ⟨rfl, hx⟩
  generalize hev : errV eb (D.truncate n k).1 = ev
  go_wp2
  go_ret
  rw [hev]
  exact ⟨rfl, hx⟩
end Go.Proofs.YtglhedahannjiaaGreatDoor.Dw

/- A disk with its invariants and its measures: the rest of its calls. -/
namespace Go.Proofs.YtglhedahannjiaaGreatDoor.Dm
set_option linter.unusedVariables false
theorem Sz.load {l : List Plain} {n m : Nat} (hn : l.length ≤ n) (hm : ∀ p, p ∈ l → p.data.length ≤ m) : Sz n m (Disk.load l) := by
  refine ⟨by simp [Disk.load]; omega, by simp [Disk.load, Disk.new], by simp [Disk.load, Disk.new], by simp [Disk.load, Disk.new], fun f hf => ?_⟩
  obtain ⟨p, hp, rfl⟩ := List.mem_map.1 hf
  simp only [loadFile, clearBad_len]
  exact hm p hp
end Go.Proofs.YtglhedahannjiaaGreatDoor.Dm
namespace Go.Proofs.YtglhedahannjiaaGreatDoor.Dw
open Go.RowKit Go.ChangeMaps Go.Proofs.YtglhedahannjiaaGreatDoor.Mp Go.Proofs.YtglhedahannjiaaGreatDoor.Dm Go.Proofs.YtglhedahannjiaaGreatDoor.Da
set_option linter.unusedVariables false
set_option linter.unusedSimpArgs false
set_option linter.unusedSectionVars false
theorem small_of {D : Disk} (hi : Inv D) (hl : ∀ f, f ∈ D.files → f.seen.length ≤ 4398046511104) : ∀ f, f ∈ D.files → FileS.Small f := by
  intro f hf
  have hk := hi.files f hf
  have h1 := hl f hf
  have h2 := hk.sub
  have hs : sectors f.seen.length ≤ 4398046511104 := by unfold sectors; omega
  have hs2 : sectors f.safe.length ≤ 4398046511104 := by unfold sectors; omega
  exact ⟨h1, by omega, fun k h => by have := hk.bseen k h; omega, fun k h => by have := hk.bsafe k h; omega, fun k h => by have := hk.wlt k h; omega⟩
section
variable {B : Nat} {w : World} {b : Nat} {lab : Nat → Option Lb} {eb : Nat → Addr} {L : List Err} {n m : Nat} {D : Disk}
theorem Live.truncateW (h : Live B w b lab eb L n m D) (hf : DFit (n + 1) m) (nm : Name) (k : Int) (hk : -9223372036854775808 ≤ k ∧ k ≤ 9223372036854775807) :
    Calls Tryz.prog 83 #[dptr b, .string nm, .int .i64 k] w fun e w' => e = .returned (errV eb (D.truncate nm k).1) ∧ Next B w lab w' b eb L (n + 1) m (D.truncate nm k).2 := by
  obtain ⟨A, h1⟩ := h.dsk
  refine (truncate_calls h1 h.ers h.inv.wf h.bnd nm k hk (small_of h.inv h.bnd.len)).mono ?_
  rintro e w' ⟨he, hx⟩
  exact ⟨he, h.next hx (h.inv.opTruncate nm k) (h.sz.opTruncate nm k) hf⟩
theorem Live.arm (h : Live B w b lab eb L n m D) (v : Value) (fs : List (Int × Int)) (cut : Int) (hv : FailsAt w v fs) (hn : fs.length ≤ 8796093022208) :
    Calls Tryz.prog 42 #[dptr b, v, .int .i64 cut] w fun e w' => e = .returned (.tuple #[]) ∧ Next B w lab w' b eb L n m (D.arm fs cut) := by
  obtain ⟨A, h1⟩ := h.dsk
  refine (arm_calls h1 v fs cut hv hn).mono ?_
  rintro e w' ⟨he, hx⟩
  exact ⟨he, h.next hx (h.inv.arm fs cut) (h.sz.arm fs cut) h.fit⟩
theorem Live.seen (h : Live B w b lab eb L n m D) :
    Calls Tryz.prog 29 #[dptr b] w fun e w' => ∃ v, e = .returned v ∧ ImgAt w' w.heap.size v D.seenImg ∧ Frm (fun _ => False) w w' := by
  obtain ⟨A, h1⟩ := h.dsk
  exact seen_calls h1 h.inv h.bnd.len (Nat.le_trans h.sz.files h.fit.fn)
theorem Live.names (h : Live B w b lab eb L n m D) :
    Calls Tryz.prog 40 #[dptr b] w fun e w' => ∃ v, e = .returned (.tuple #[v, errV eb D.names.1]) ∧ w'.ownsRow w.heap.size 9 1 v D.names.2.length (strs D.names.2) ∧ Frm (fun _ => False) w w' := by
  obtain ⟨A, h1⟩ := h.dsk
  exact names_calls h1 h.ers h.inv (Nat.le_trans h.sz.files h.fit.fn)
set_option maxRecDepth 100000 in
theorem Live.ops (h : Live B w b lab eb L n m D) : Calls Tryz.prog 33 #[dptr b] w fun e w' => e = .returned (.int .i64 D.count) ∧ w' = w := by
  obtain ⟨A, h1⟩ := h.dsk
  have c4 : w.cell? ⟨b, 4, none⟩ = some (.int .i64 D.count) := main_cell h1.blk rfl
  clear h h1
  unfold dptr
  go_enter Tryz.func33, Tryz.ntmps33
  go_wp2
  go_ret
  exact ⟨rfl, rfl⟩
set_option maxRecDepth 100000 in
theorem Live.down (h : Live B w b lab eb L n m D) : Calls Tryz.prog 35 #[dptr b] w fun e w' => e = .returned (.bool D.off) ∧ w' = w := by
  obtain ⟨A, h1⟩ := h.dsk
  have c8 : w.cell? ⟨b, 8, none⟩ = some (.bool D.off) := main_cell h1.blk rfl
  clear h h1
  unfold dptr
  go_enter Tryz.func35, Tryz.ntmps35
  go_wp2
  go_ret
  exact ⟨rfl, rfl⟩
end
/-- An image that is read. -/
def ImgRd (w : World) (v : Value) (l : List Plain) : Prop := ∃ A c, v = .agg #[.slice A l.length c] ∧ l.length ≤ c ∧ fileK.C w A l.length l
theorem ImgAt.rd {w : World} {base : Nat} {v : Value} {l : List Plain} (h : ImgAt w base v l) : ImgRd w v l := by
  obtain ⟨A, c, e, h⟩ := h
  obtain ⟨A2, c2, e2, h2, h3⟩ := Go.Proofs.YtglhedahannjiaaGreatDoorW.PrintWords.Kd.R_reads h
  simp only [Value.slice.injEq, true_and] at e2
  obtain ⟨rfl, rfl⟩ := e2
  exact ⟨A, c, e, h2, h3⟩
theorem ImgRd.frm {w w' : World} {v : Value} {l : List Plain} (h : ImgRd w v l) (hf : Frm (fun _ => False) w w') : ImgRd w' v l := by
  obtain ⟨A, c, e, h1, h2⟩ := h
  exact ⟨A, c, e, h1, Go.Proofs.YtglhedahannjiaaGreatDoorW.PrintWords.Kd.C_below h2 (hf.below (fun _ h => h.elim) (Nat.le_refl _))⟩
/-- Load: a disk of the image, all of it new; or the error. -/
theorem load_live {B : Nat} {w : World} {eb : Nat → Addr} {L : List Err} (he : ErrsAt B w eb L) (hB : B ≤ w.heap.size) (h10 : 10 ∈ L) (v : Value) (l : List Plain) (hv : ImgRd w v l) {n m : Nat} (hn : l.length ≤ n) (hm : ∀ p, p ∈ l → p.data.length ≤ m) (hf : DFit n m)
    (hd : ∀ p, p ∈ l → ∀ x, x ∈ p.data → 0 ≤ x ∧ x < 256) (hnm : ∀ p, p ∈ l → p.name.size ≤ 9223372036854775807) :
    Calls Tryz.prog 19 #[v] w fun e w' => Frm (fun _ => False) w w' ∧ ((Dm.Good l ∧ ∃ b lab, e = .returned (.tuple #[dptr b, .nilIface]) ∧ Live B w' b lab eb L n m (Disk.load l) ∧ ∀ k, Ft lab k → w.heap.size ≤ k) ∨
      (¬ Dm.Good l ∧ e = .returned (.tuple #[.pointer none, errV eb 10]))) := by
  obtain ⟨A, c, rfl, hlc, hC⟩ := hv
  have he' : ErrsAt w.heap.size w eb L := ⟨he.var, he.blk, fun c hc => Nat.lt_of_lt_of_le (he.ebl c hc) hB, fun c hc => Nat.lt_of_lt_of_le (he.low c hc) hB, he.inj, he.six⟩
  refine (load_calls he' h10 l A c hC hlc (by have := hf.fn; omega) (fun p hp => Nat.le_trans (hm p hp) (Nat.le_trans hf.fm (by decide))) hnm).mono ?_
  rintro e w' ⟨hfr, h⟩
  refine ⟨hfr, h.imp (fun ⟨hg, b, A', lab, e1, e2⟩ => ⟨hg, b, lab, e1, ⟨⟨A', e2.lower hB⟩, he.frm hfr (fun _ h => h.elim), Inv.load hg hd, Sz.load hn hm, hf⟩, fun k hk => ?_⟩) id⟩
  obtain ⟨p, hp⟩ := Option.isSome_iff_exists.1 hk
  exact (e2.base k p hp).1
end Go.Proofs.YtglhedahannjiaaGreatDoor.Dw
