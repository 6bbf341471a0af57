/- A part of the proof of diskDown_holds: Fm. No condition. -/
import Derived.Test.YtglhedahannjiaaGreatDoorC29

/- Walks: DiskKept. -/
namespace Go.Proofs.YtglhedahannjiaaGreatDoor.Dw
open Go.RowKit Go.ChangeMaps Go.Proofs.YtglhedahannjiaaGreatDoor.Mp Go.Proofs.YtglhedahannjiaaGreatDoor.Dm Go.Proofs.YtglhedahannjiaaGreatDoor.Da
open Go.Proofs.YtglhedahannjiaaGreatDoorW.PrintWords (Kd ReadsInt)
set_option linter.unusedVariables false
set_option linter.unusedSimpArgs false
set_option linter.unusedSectionVars false
/-- What a law's arguments are: an image and a script, read where it began. -/
structure ArgsOk (w : World) (vi : Value) (l : List Plain) (As : Option Addr) (os : List OpS) (cs : Nat) : Prop where
  img : ImgRd w vi l
  len : l.length ≤ 4398046511104
  bytes : ∀ p, p ∈ l → ∀ x, x ∈ p.data → 0 ≤ x ∧ x < 256
  data : ∀ p, p ∈ l → p.data.length ≤ 140737488355328
  names : ∀ p, p ∈ l → p.name.size ≤ 9223372036854775807
  ops : opK.C w As os.length os
  cap : os.length ≤ cs
  ok : ∀ o, o ∈ os → OpOk o
  opd : ∀ o, o ∈ os → o.data.length ≤ 140737488355328
theorem ArgsOk.played {w0 w : World} {vi : Value} {l : List Plain} {As : Option Addr} {os : List OpS} {cs : Nat} (h : ArgsOk w0 vi l As os cs) {eb : Nat → Addr} (h15 : Errs15 w0.heap.size w0 eb) (hw : Frm (fun _ => False) w0 w) :
    Calls Tryz.prog 38 #[vi, .slice As os.length cs] w fun e w' => ∃ b lab n m D, e = .returned (dptr b) ∧ Live w.heap.size w' b lab eb l7 n m D ∧ n ≤ 1052672 ∧ m ≤ 1048576 ∧ Frm (fun _ => False) w w' := by
  refine (played_calls ((h15.frm hw (fun _ h => h.elim)).up hw.size) hw vi l (h.img.frm hw) h.len h.bytes h.data h.names As os cs h.ops h.cap h.ok h.opd).mono ?_
  rintro e w' ⟨b, lab, n, m, e1, e2, e3⟩
  exact ⟨b, lab, n, m, _, e1, e2, e3⟩
theorem imgOk_of {l : List Plain} (h : Img l) {m : Nat} (hm : ∀ p, p ∈ l → p.data.length ≤ m) (hb : m ≤ 140737488355328) : ImgOk l := fun p hp => ⟨h.bytes p hp, Nat.le_trans (hm p hp) hb⟩
/-- What a law asks of a disk that stays as it is. -/
structure Still (W0 : World) (b : Nat) (eb : Nat → Addr) (D : Disk) : Prop where
  live : ∃ B lab n m, Live B W0 b lab eb l7 n m D ∧ n ≤ 1052672 ∧ m ≤ 1048576
section
variable {W0 : World} {b : Nat} {eb : Nat → Addr} {D : Disk} (h : Still W0 b eb D)
include h
theorem Still.frm {W : World} (hf : Frm (fun _ => False) W0 W) : Still W b eb D := by
  obtain ⟨B, lab, n, m, hL, h1, h2⟩ := h.live
  exact ⟨B, lab, n, m, hL.frm hf, h1, h2⟩
theorem Still.inv : Inv D := by obtain ⟨B, lab, n, m, hL, h1, h2⟩ := h.live; exact hL.inv
theorem Still.len : ∀ f, f ∈ D.files → f.seen.length ≤ 1048576 := by obtain ⟨B, lab, n, m, hL, h1, h2⟩ := h.live; exact fun f hf => Nat.le_trans (hL.sz.len f hf) h2
theorem Still.files : D.files.length ≤ 1052672 := by obtain ⟨B, lab, n, m, hL, h1, h2⟩ := h.live; exact Nat.le_trans hL.sz.files h1
theorem Still.crashOk (fs : List Int) (k : Int) : ImgOk (D.crash fs k) := imgOk_of (crash_img h.inv fs k) (crash_len h.inv fs k h.len).2 (by decide)
theorem Still.seenOk : ImgOk D.seenImg := imgOk_of (seen_img h.inv) (seen_len h.inv h.len).2 (by decide)
theorem Still.crash (fs : List Int) (k : Int) (p : Option Addr) (c : Nat) (hfs : ∀ j (hj : j < fs.length), ∃ ad, p = some ad ∧ W0.cell? (ad.add j) = some (.int .i64 fs[j])) (hfl : fs.length ≤ 4611686018427387904) :
    Calls Tryz.prog 17 #[dptr b, .agg #[.slice p fs.length c, .int .i64 k]] W0 fun e w' => ∃ A c, e = .returned (.agg #[.slice A (D.crash fs k).length c]) ∧ ImgRd w' (.agg #[.slice A (D.crash fs k).length c]) (D.crash fs k) ∧ Frm (fun _ => False) W0 w' := by
  obtain ⟨B, lab, n, m, hL, h1, h2⟩ := h.live
  refine (hL.crash fs k p c hfs hfl).mono ?_
  rintro e w' ⟨v, rfl, hv, hf⟩
  obtain ⟨A, c', rfl, _⟩ := id hv
  exact ⟨A, c', rfl, hv.rd, hf⟩
theorem Still.safe : Calls Tryz.prog 31 #[dptr b] W0 fun e w' => ∃ A c, e = .returned (.agg #[.slice A (D.crash [] 0).length c]) ∧ ImgRd w' (.agg #[.slice A (D.crash [] 0).length c]) (D.crash [] 0) ∧ Frm (fun _ => False) W0 w' := by
  obtain ⟨B, lab, n, m, hL, h1, h2⟩ := h.live
  refine hL.safe.mono ?_
  rintro e w' ⟨v, rfl, hv, hf⟩
  obtain ⟨A, c', rfl, _⟩ := id hv
  exact ⟨A, c', rfl, hv.rd, hf⟩
theorem Still.seen : Calls Tryz.prog 29 #[dptr b] W0 fun e w' => ∃ A c, e = .returned (.agg #[.slice A D.seenImg.length c]) ∧ ImgRd w' (.agg #[.slice A D.seenImg.length c]) D.seenImg ∧ Frm (fun _ => False) W0 w' := by
  obtain ⟨B, lab, n, m, hL, h1, h2⟩ := h.live
  refine hL.seen.mono ?_
  rintro e w' ⟨v, rfl, hv, hf⟩
  obtain ⟨A, c', rfl, _⟩ := id hv
  exact ⟨A, c', rfl, hv.rd, hf⟩
theorem Still.waiting : Calls Tryz.prog 16 #[dptr b] W0 fun e w' => e = .returned (.tuple #[.int .i64 D.waitingN, .int .i64 D.changes.length]) ∧ Frm (fun _ => False) W0 w' := by
  obtain ⟨B, lab, n, m, hL, h1, h2⟩ := h.live
  exact hL.waiting
theorem Still.ops : Calls Tryz.prog 33 #[dptr b] W0 fun e w' => e = .returned (.int .i64 D.count) ∧ w' = W0 := by
  obtain ⟨B, lab, n, m, hL, h1, h2⟩ := h.live
  exact hL.ops
theorem Still.down : Calls Tryz.prog 35 #[dptr b] W0 fun e w' => e = .returned (.bool D.off) ∧ w' = W0 := by
  obtain ⟨B, lab, n, m, hL, h1, h2⟩ := h.live
  exact hL.down
theorem Still.reload (fs : List Int) (k : Int) (v : Value) (hv : ImgRd W0 v (D.crash fs k)) (hB : True) :
    Calls Tryz.prog 19 #[v] W0 fun e w' => ∃ b', e = .returned (.tuple #[dptr b', .nilIface]) ∧ Still w' b' eb (Disk.load (D.crash fs k)) ∧ Frm (fun _ => False) W0 w' := by
  obtain ⟨B, lab, n, m, hL, h1, h2⟩ := h.live
  have hBB : B ≤ W0.heap.size := by
    obtain ⟨A, hd⟩ := hL.dsk
    have := hd.base _ _ hd.lb
    omega
  refine (Go.Proofs.YtglhedahannjiaaGreatDoor.Dw.reload hL hBB (Frm.refl _ _) fs k v hv).mono ?_
  rintro e w' ⟨b', lab', e1, e2, e3, e4⟩
  exact ⟨b', e1, ⟨B, lab', n, m, e2, h1, h2⟩, e3⟩
end
/-- Two looks at one image. -/
theorem images_same (W : World) (v1 v2 : Value) (l : List Plain) (h1 : ImgRd W v1 l) (h2 : ImgRd W v2 l) (ok : ImgOk l) : Calls Tryz.prog 28 #[v1, v2] W fun e w' => e = .returned (.bool true) ∧ Frm (fun _ => False) W w' :=
  images_calls W v1 v2 l l h1 h2 ok ok true (by simp)
end Go.Proofs.YtglhedahannjiaaGreatDoor.Dw
