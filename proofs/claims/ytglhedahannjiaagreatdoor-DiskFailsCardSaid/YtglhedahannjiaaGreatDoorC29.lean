/- A part of the proof of diskKeptUpto_holds: Fm. No condition. -/
import Derived.Test.YtglhedahannjiaaGreatDoorC28

/- Walks: DiskKept. -/
namespace Go.Proofs.YtglhedahannjiaaGreatDoor.Dw
open Go.RowKit Go.ChangeMaps Go.Proofs.YtglhedahannjiaaGreatDoor.Mp Go.Proofs.YtglhedahannjiaaGreatDoor.Dm Go.Proofs.YtglhedahannjiaaGreatDoor.Da
open Go.Proofs.YtglhedahannjiaaGreatDoorW.PrintWords (Kd ReadsInt)
set_option linter.unusedVariables false
set_option linter.unusedSimpArgs false
set_option linter.unusedSectionVars false
/-- What a law's arguments are: an image and a script, read where it began. -/
structure ArgsOk (w : World) (vi : Value) (l : List Plain) (As : Option Addr) (os : List OpS) (cs : Nat) : Prop where
  img : ImgRd w vi l
  len : l.length ≤ 4398046511104
  bytes : ∀ p, p ∈ l → ∀ x, x ∈ p.data → 0 ≤ x ∧ x < 256
  data : ∀ p, p ∈ l → p.data.length ≤ 140737488355328
  names : ∀ p, p ∈ l → p.name.size ≤ 9223372036854775807
  ops : opK.C w As os.length os
  cap : os.length ≤ cs
  ok : ∀ o, o ∈ os → OpOk o
  opd : ∀ o, o ∈ os → o.data.length ≤ 140737488355328
theorem ArgsOk.played {w0 w : World} {vi : Value} {l : List Plain} {As : Option Addr} {os : List OpS} {cs : Nat} (h : ArgsOk w0 vi l As os cs) {eb : Nat → Addr} (h15 : Errs15 w0.heap.size w0 eb) (hw : Frm (fun _ => False) w0 w) :
    Calls Tryz.prog 38 #[vi, .slice As os.length cs] w fun e w' => ∃ b lab n m D, e = .returned (dptr b) ∧ Live w.heap.size w' b lab eb l7 n m D ∧ n ≤ 1052672 ∧ m ≤ 1048576 ∧ Frm (fun _ => False) w w' := by
  refine (played_calls ((h15.frm hw (fun _ h => h.elim)).up hw.size) hw vi l (h.img.frm hw) h.len h.bytes h.data h.names As os cs h.ops h.cap h.ok h.opd).mono ?_
  rintro e w' ⟨b, lab, n, m, e1, e2, e3⟩
  exact ⟨b, lab, n, m, _, e1, e2, e3⟩
theorem imgOk_of {l : List Plain} (h : Img l) {m : Nat} (hm : ∀ p, p ∈ l → p.data.length ≤ m) (hb : m ≤ 140737488355328) : ImgOk l := fun p hp => ⟨h.bytes p hp, Nat.le_trans (hm p hp) hb⟩
theorem own_ints {w : World} {base n : Nat} {p : Option Addr} {c : Nat} {xs : List Int} (h : w.ownsRow base 3 1 (.slice p n c) n (i64s xs)) : ∀ j (hj : j < xs.length), ∃ ad, p = some ad ∧ w.cell? (ad.add j) = some (.int .i64 xs[j]) := by
  intro j hj
  have hn : xs.length = n := by have := h.1; simp [i64s] at this; exact this
  obtain ⟨g, c', e, _⟩ := row_shape h (by omega)
  simp only [Value.slice.injEq, true_and] at e
  obtain ⟨rfl, rfl⟩ := e
  refine ⟨_, rfl, ?_⟩
  rw [add_off, Nat.zero_add, h.cellAt j (by omega)]
  unfold i64s
  rw [List.getElem?_map, List.getElem?_eq_getElem hj]; rfl
/-- What a law asks of a disk that stays as it is. -/
structure Still (W0 : World) (b : Nat) (eb : Nat → Addr) (D : Disk) : Prop where
  live : ∃ B lab n m, Live B W0 b lab eb l7 n m D ∧ n ≤ 1052672 ∧ m ≤ 1048576
section
variable {W0 : World} {b : Nat} {eb : Nat → Addr} {D : Disk} (h : Still W0 b eb D)
include h
theorem Still.frm {W : World} (hf : Frm (fun _ => False) W0 W) : Still W b eb D := by
  obtain ⟨B, lab, n, m, hL, h1, h2⟩ := h.live
  exact ⟨B, lab, n, m, hL.frm hf, h1, h2⟩
theorem Still.inv : Inv D := by obtain ⟨B, lab, n, m, hL, h1, h2⟩ := h.live; exact hL.inv
theorem Still.len : ∀ f, f ∈ D.files → f.seen.length ≤ 1048576 := by obtain ⟨B, lab, n, m, hL, h1, h2⟩ := h.live; exact fun f hf => Nat.le_trans (hL.sz.len f hf) h2
theorem Still.files : D.files.length ≤ 1052672 := by obtain ⟨B, lab, n, m, hL, h1, h2⟩ := h.live; exact Nat.le_trans hL.sz.files h1
theorem Still.crashOk (fs : List Int) (k : Int) : ImgOk (D.crash fs k) := imgOk_of (crash_img h.inv fs k) (crash_len h.inv fs k h.len).2 (by decide)
theorem Still.seenOk : ImgOk D.seenImg := imgOk_of (seen_img h.inv) (seen_len h.inv h.len).2 (by decide)
theorem Still.allN : allN D.seenImg ≤ 4398046511104 := by
  have := allN_le (Nat.le_trans (seen_len h.inv h.len).1 h.files) (seen_len h.inv h.len).2
  omega
theorem Still.crash (fs : List Int) (k : Int) (p : Option Addr) (c : Nat) (hfs : ∀ j (hj : j < fs.length), ∃ ad, p = some ad ∧ W0.cell? (ad.add j) = some (.int .i64 fs[j])) (hfl : fs.length ≤ 4611686018427387904) :
    Calls Tryz.prog 17 #[dptr b, .agg #[.slice p fs.length c, .int .i64 k]] W0 fun e w' => ∃ A c, e = .returned (.agg #[.slice A (D.crash fs k).length c]) ∧ ImgRd w' (.agg #[.slice A (D.crash fs k).length c]) (D.crash fs k) ∧ Frm (fun _ => False) W0 w' := by
  obtain ⟨B, lab, n, m, hL, h1, h2⟩ := h.live
  refine (hL.crash fs k p c hfs hfl).mono ?_
  rintro e w' ⟨v, rfl, hv, hf⟩
  obtain ⟨A, c', rfl, _⟩ := id hv
  exact ⟨A, c', rfl, hv.rd, hf⟩
theorem Still.safe : Calls Tryz.prog 31 #[dptr b] W0 fun e w' => ∃ A c, e = .returned (.agg #[.slice A (D.crash [] 0).length c]) ∧ ImgRd w' (.agg #[.slice A (D.crash [] 0).length c]) (D.crash [] 0) ∧ Frm (fun _ => False) W0 w' := by
  obtain ⟨B, lab, n, m, hL, h1, h2⟩ := h.live
  refine hL.safe.mono ?_
  rintro e w' ⟨v, rfl, hv, hf⟩
  obtain ⟨A, c', rfl, _⟩ := id hv
  exact ⟨A, c', rfl, hv.rd, hf⟩
theorem Still.seen : Calls Tryz.prog 29 #[dptr b] W0 fun e w' => ∃ A c, e = .returned (.agg #[.slice A D.seenImg.length c]) ∧ ImgRd w' (.agg #[.slice A D.seenImg.length c]) D.seenImg ∧ Frm (fun _ => False) W0 w' := by
  obtain ⟨B, lab, n, m, hL, h1, h2⟩ := h.live
  refine hL.seen.mono ?_
  rintro e w' ⟨v, rfl, hv, hf⟩
  obtain ⟨A, c', rfl, _⟩ := id hv
  exact ⟨A, c', rfl, hv.rd, hf⟩
theorem Still.waiting : Calls Tryz.prog 16 #[dptr b] W0 fun e w' => e = .returned (.tuple #[.int .i64 D.waitingN, .int .i64 D.changes.length]) ∧ Frm (fun _ => False) W0 w' := by
  obtain ⟨B, lab, n, m, hL, h1, h2⟩ := h.live
  exact hL.waiting
theorem Still.ops : Calls Tryz.prog 33 #[dptr b] W0 fun e w' => e = .returned (.int .i64 D.count) ∧ w' = W0 := by
  obtain ⟨B, lab, n, m, hL, h1, h2⟩ := h.live
  exact hL.ops
theorem Still.down : Calls Tryz.prog 35 #[dptr b] W0 fun e w' => e = .returned (.bool D.off) ∧ w' = W0 := by
  obtain ⟨B, lab, n, m, hL, h1, h2⟩ := h.live
  exact hL.down
theorem Still.reload (fs : List Int) (k : Int) (v : Value) (hv : ImgRd W0 v (D.crash fs k)) (hB : True) :
    Calls Tryz.prog 19 #[v] W0 fun e w' => ∃ b', e = .returned (.tuple #[dptr b', .nilIface]) ∧ Still w' b' eb (Disk.load (D.crash fs k)) ∧ Frm (fun _ => False) W0 w' := by
  obtain ⟨B, lab, n, m, hL, h1, h2⟩ := h.live
  have hBB : B ≤ W0.heap.size := by
    obtain ⟨A, hd⟩ := hL.dsk
    have := hd.base _ _ hd.lb
    omega
  refine (Go.Proofs.YtglhedahannjiaaGreatDoor.Dw.reload hL hBB (Frm.refl _ _) fs k v hv).mono ?_
  rintro e w' ⟨b', lab', e1, e2, e3, e4⟩
  exact ⟨b', e1, ⟨B, lab', n, m, e2, h1, h2⟩, e3⟩
end
/-- Two looks at one image. -/
theorem images_same (W : World) (v1 v2 : Value) (l : List Plain) (h1 : ImgRd W v1 l) (h2 : ImgRd W v2 l) (ok : ImgOk l) : Calls Tryz.prog 28 #[v1, v2] W fun e w' => e = .returned (.bool true) ∧ Frm (fun _ => False) W w' :=
  images_calls W v1 v2 l l h1 h2 ok ok true (by simp)
set_option maxHeartbeats 4000000 in
set_option maxRecDepth 100000 in
theorem law_kept {w : World} {eb : Nat → Addr} (h15 : Errs15 w.heap.size w eb) {vi : Value} {l : List Plain} {As : Option Addr} {os : List OpS} {cs : Nat} (ha : ArgsOk w vi l As os cs) (fs : List Int) (fn : Int) (Af : Option Addr) (cf : Nat) (hfs : ∀ j (hj : j < fs.length), ∃ ad, Af = some ad ∧ w.cell? (ad.add j) = some (.int .i64 fs[j])) (hfl : fs.length ≤ 4611686018427387904) :
    Calls Tryz.prog 5 #[vi, .slice As os.length cs, .agg #[.slice Af fs.length cf, .int .i64 fn]] w fun e w' => e = .returned (.bool true) ∧ Frm (fun _ => False) w w' := by
  obtain ⟨Ai, ci, rfl, hci, hCi⟩ := id ha.img
  have KL : Hid (∀ W, Frm (fun _ => False) w W → Calls Tryz.prog 10 #[] W fun e w' => e = .returned (.bool true) ∧ Frm (fun _ => False) W w') := fun W hW => lives_calls ((h15.frm hW (fun _ h => h.elim)).up hW.size).errs
  have KP : Hid (∀ W, Frm (fun _ => False) w W → Calls Tryz.prog 38 #[.agg #[.slice Ai l.length ci], .slice As os.length cs] W fun e w' => ∃ b lab n m D, e = .returned (dptr b) ∧ Live W.heap.size w' b lab eb l7 n m D ∧ n ≤ 1052672 ∧ m ≤ 1048576 ∧ Frm (fun _ => False) W w') :=
    fun W hW => ha.played h15 hW
  have HFS := Lib.hid hfs
  have H15 := Lib.hid h15
  clear ha h15 hfs hCi
  go_enter Tryz.func5, Tryz.ntmps5
  go_upto_region 8 with (first
    | (go_at_call 10; refine (KL.out _ (((Frm.refl _ _).alloc _).alloc _)).mono ?_; rintro e w1 ⟨rfl, f1⟩; have F1 : Hid (Frm (fun _ => False) w w1) := Lib.hid ((((Frm.refl _ _).alloc _).alloc _).trans f1 (fun _ _ h => h)); have x3 : w1.cell? ⟨w.heap.size, 0, none⟩ = some (.slice Ai l.length ci) := cell_of ((f1.block _ (by simp; omega) id).trans ((blk_alloc_lt (by simp)).trans blk_alloc)) rfl; have B5 : Hid (w1.heap[w.heap.size + 1]? = some (.cells #[.slice Af fs.length cf, .int .i64 fn] 39 (0, 0))) := Lib.hid ((f1.block _ (by simp) id).trans (by rw [show w.heap.size + 1 = (w.alloc (.cells #[.slice Ai l.length ci] 36)).heap.size by simp only [World.size_alloc]]; exact blk_alloc)); clear f1)
    | (go_at_call 38; refine (KP.out _ F1.out).mono ?_; rintro e w2 ⟨b, lab, n, m, D0, rfl, hL, hn, hm, f2⟩; have KF := Lib.hid (fresh_calls hL f2.size); have HLV := Lib.hid (And.intro hL (And.intro f2 (And.intro hn hm))); clear hL f2 hn hm x3)
    | (go_at_call 37; refine KF.out.mono ?_; rintro e w3 ⟨b3, rfl, lab3, hL3, hf3, _⟩; unfold dptr; have HL3 := Lib.hid (And.intro hL3 ((HLV.out.2.1.trans hf3 (fun k hk hl => by have := HLV.out.1.base k hl; omega)))); have KS := Lib.hid hL3.seen; clear hL3 hf3)
    | (go_at_call 29; refine KS.out.mono ?_; rintro e w4 ⟨v4, rfl, hv4, f4⟩; obtain ⟨p4, c4, rfl, hR4⟩ := hv4; have HS4 := Lib.hid (And.intro hR4 f4); have KW := Lib.hid ((HL3.out.1.frm f4).frm ((Frm.refl _ _).alloc (.cells #[.slice p4 D0.fresh.seenImg.length c4] 36))).waiting; clear hR4 f4)
    | (go_at_call 16; refine KW.out.mono ?_; rintro e w5 ⟨rfl, f5⟩; have HS5 := Lib.hid f5; clear f5))
  obtain ⟨hR4, f4⟩ := HS4.out
  have f5 : Frm (fun _ => False) w4 w5 := ((Frm.refl _ _).alloc _).trans HS5.out (fun _ _ h => h)
  have f15 : Frm (fun _ => False) w1 w5 := (HL3.out.2.trans f4 (fun _ _ h => h)).trans f5 (fun _ _ h => h)
  have hrd : ImgRd w5 (.agg #[.slice p4 D0.fresh.seenImg.length c4]) D0.fresh.seenImg := ImgRd.frm (ImgAt.rd ⟨p4, c4, rfl, hR4⟩) f5
  have hst : Still w5 b3 eb D0.fresh := ⟨_, _, _, _, (HL3.out.1.frm f4).frm f5, HLV.out.2.2.1, HLV.out.2.2.2⟩
  have hq : w5.heap[w4.heap.size]? = some (.cells #[.slice p4 D0.fresh.seenImg.length c4] 36 (0, 0)) := (HS5.out.block _ (by simp) id).trans blk_alloc
  have hoff := fresh_off D0
  have hfr5 : Frm (fun _ => False) w w5 := F1.out.trans f15 (fun _ _ h => h)
  have hb5 : w5.heap[w.heap.size + 1]? = some (.cells #[.slice Af fs.length cf, .int .i64 fn] 39 (0, 0)) := (f15.block _ (Da.blk_lt B5.out) id).trans B5.out
  clear KL KP HL3 HS4 KW HS5 KS KF HLV hR4 f4 f5 f15 F1 B5
  generalize D0.fresh = D at *
  generalize w4.heap.size = q at *
  have hN := hst.allN
  have hkept : D.crash (List.replicate (allN D.seenImg) 1) (D.changes.length : Nat) = D.seenImg := crash_kept hst.inv hoff (all_enough hoff)
  have KALL : Hid (∀ W, Frm (fun _ => False) w5 W → Calls Tryz.prog 39 #[.agg #[.slice p4 D.seenImg.length c4], .int .i64 1] W fun e w' => ∃ p c, e = .returned (.slice p (allN D.seenImg) c) ∧ (∀ j (hj : j < (List.replicate (allN D.seenImg) (1 : Int)).length), ∃ ad, p = some ad ∧ w'.cell? (ad.add j) = some (.int .i64 (List.replicate (allN D.seenImg) (1 : Int))[j])) ∧ Frm (fun _ => False) w5 w') := by
    intro W hW
    refine (all_calls W _ D.seenImg 1 (hrd.frm hW) (fun p hp => (hst.seenOk p hp).2) hN).mono ?_
    rintro e w' ⟨p, c, rfl, _, ho, hf⟩
    exact ⟨p, c, rfl, own_ints ho, hW.trans hf (fun _ _ h => h)⟩
  have KC1 : Hid (∀ W p c, Frm (fun _ => False) w5 W → (∀ j (hj : j < (List.replicate (allN D.seenImg) (1 : Int)).length), ∃ ad, p = some ad ∧ W.cell? (ad.add j) = some (.int .i64 (List.replicate (allN D.seenImg) (1 : Int))[j])) → Calls Tryz.prog 17 #[dptr b3, .agg #[.slice p (allN D.seenImg) c, .int .i64 (D.changes.length : Nat)]] W fun e w' => ∃ A c, e = .returned (.agg #[.slice A D.seenImg.length c]) ∧ ImgRd w' (.agg #[.slice A D.seenImg.length c]) D.seenImg ∧ Frm (fun _ => False) w5 w') := by
    intro W p c hW hp
    have := (hst.frm hW).crash (List.replicate (allN D.seenImg) 1) (D.changes.length : Nat) p c hp (by simp; omega)
    rw [hkept, List.length_replicate] at this
    refine this.mono ?_
    rintro e w' ⟨A, c, e1, e2, e3⟩
    exact ⟨A, c, e1, e2, hW.trans e3 (fun _ _ h => h)⟩
  have KC2 : Hid (∀ W, Frm (fun _ => False) w5 W → Calls Tryz.prog 17 #[dptr b3, .agg #[.slice none 0 0, .int .i64 0]] W fun e w' => ∃ A c, e = .returned (.agg #[.slice A (D.crash [] 0).length c]) ∧ ImgRd w' (.agg #[.slice A (D.crash [] 0).length c]) (D.crash [] 0) ∧ Frm (fun _ => False) w5 w') := by
    intro W hW
    refine ((hst.frm hW).crash [] 0 none 0 (fun j hj => absurd hj (by simp)) (by simp)).mono ?_
    rintro e w' ⟨A, c, e1, e2, e3⟩
    exact ⟨A, c, e1, e2, hW.trans e3 (fun _ _ h => h)⟩
  have KSF : Hid (∀ W, Frm (fun _ => False) w5 W → Calls Tryz.prog 31 #[dptr b3] W fun e w' => ∃ A c, e = .returned (.agg #[.slice A (D.crash [] 0).length c]) ∧ ImgRd w' (.agg #[.slice A (D.crash [] 0).length c]) (D.crash [] 0) ∧ Frm (fun _ => False) W w') := fun W hW => (hst.frm hW).safe
  have KI : Hid (∀ W v1 v2 l, ImgRd W v1 l → ImgRd W v2 l → ImgOk l → Calls Tryz.prog 28 #[v1, v2] W fun e w' => e = .returned (.bool true) ∧ Frm (fun _ => False) W w') := fun W v1 v2 l h1 h2 ok => images_same W v1 v2 l h1 h2 ok
  have zz : Hid (∀ W, Frm (fun _ => False) w5 W → W.cell? ⟨q, 0, none⟩ = some (.slice p4 D.seenImg.length c4)) := fun W hW => cell_of ((hW.block _ (Da.blk_lt hq) id).trans hq) rfl
  have S0 := zz.out w5 (Frm.refl _ _)
  have D0 := zz.out w5.drew (Frm.refl _ _).drew
  have HST := Lib.hid hst
  have HRD := Lib.hid hrd
  have HOK1 := Lib.hid hst.seenOk
  have HOK2 := Lib.hid (hst.crashOk [] 0)
  have HFR := Lib.hid (And.intro hfr5 (And.intro hb5 hoff))
  clear hst hrd hkept hN hfr5 hb5 hoff hq
  unfold dptr at KC1 KC2 KSF
  go_region_held3 (fun w' => w'.cell? ⟨q, 0, none⟩ = some (.slice p4 D.seenImg.length c4))
    (first | exact S0 | exact D0 | exact zz.out _ HX6.out.1 | exact zz.out _ HX7.out.1 | exact zz.out _ HX8.out | exact zz.out _ HX9.out.1 | exact zz.out _ HX10.out.1 | exact zz.out _ HX11.out | go_keep)
    (first
      | (go_at_call 39; (with_reducible refine (KALL.out _ (by first | exact Frm.refl _ _ | exact (Frm.refl _ _).drew)).mono ?_); rintro e w6 ⟨pa, ca, rfl, ha, f6⟩; have HX6 := Lib.hid (And.intro f6 ha); clear ha f6)
      | (go_at_call 17; (with_reducible refine (KC1.out _ _ _ HX6.out.1 HX6.out.2).mono ?_); rintro e w7 ⟨A7, c7, rfl, hr7, f7⟩; have HX7 := Lib.hid (And.intro f7 hr7); clear hr7 f7)
      | (go_at_call 28; (with_reducible refine (KI.out _ _ _ D.seenImg HX7.out.2 (HRD.out.frm HX7.out.1) HOK1.out).mono ?_); rintro e w8 ⟨rfl, f8⟩; have HX8 : Hid (Frm (fun _ => False) w5 w8) := Lib.hid (HX7.out.1.trans f8 (fun _ _ h => h)); clear f8)
      | (go_at_call 17; (with_reducible refine (KC2.out _ HX8.out).mono ?_); rintro e w9 ⟨A9, c9, rfl, hr9, f9⟩; have HX9 := Lib.hid (And.intro f9 hr9); clear hr9 f9)
      | (go_at_call 31; (with_reducible refine (KSF.out _ HX9.out.1).mono ?_); rintro e w10 ⟨A10, c10, rfl, hr10, f10⟩; have HX10 := Lib.hid (And.intro (HX9.out.1.trans f10 (fun _ _ h => h)) (And.intro hr10 (HX9.out.2.frm f10))); clear hr10 f10)
      | (go_at_call 28; (with_reducible refine (KI.out _ _ _ (D.crash [] 0) HX10.out.2.2 HX10.out.2.1 HOK2.out).mono ?_); rintro e w11 ⟨rfl, f11⟩; have HX11 : Hid (Frm (fun _ => False) w5 w11) := Lib.hid (HX10.out.1.trans f11 (fun _ _ h => h)); clear f11))
  have h11 := HX11.out
  have b11 := (h11.block _ (Da.blk_lt HFR.out.2.1) id).trans HFR.out.2.1
  have z50 : w11.cell? ⟨w.heap.size + 1, 0, none⟩ = some (.slice Af fs.length cf) := cell_of b11 rfl
  have z51 : w11.cell? ⟨w.heap.size + 1, 1, none⟩ = some (.int .i64 fn) := cell_of b11 rfl
  have f011 : Frm (fun _ => False) w w11 := HFR.out.1.trans h11 (fun _ _ h => h)
  have st11 := HST.out.frm h11
  have hoff := HFR.out.2.2
  have KC3 := Lib.hid (st11.crash fs fn Af cf (fun j hj => by obtain ⟨ad, e, hc⟩ := HFS.out j hj; exact ⟨ad, e, frm_cell f011 hc⟩) hfl)
  have HFW := Lib.hid (And.intro f011 b11)
  have HS11 := Lib.hid st11
  have himg := crash_img st11.inv fs fn
  have hok := st11.crashOk fs fn
  have hes : (Disk.load (D.crash fs fn)).seenImg = D.crash fs fn := load_seen himg
  have hec : ∀ gs k, (Disk.load (D.crash fs fn)).crash gs k = D.crash fs fn := fun gs k => load_crash himg gs k
  have HPURE := Lib.hid (And.intro hes (And.intro hec hok))
  clear h11 b11 f011 st11 himg hes hec hok hoff HX6 HX7 HX8 HX9 HX10 HX11 KALL KC1 KC2 KSF zz HRD HOK1 HOK2 HFR HST S0 D0
  unfold dptr at KC3
  obtain ⟨lf, hlf⟩ : ∃ lf, lf = D.crash fs fn := ⟨_, rfl⟩
  have HLF := Lib.hid hlf
  have hel : (Disk.load lf).waitingN = 0 ∧ (Disk.load lf).changes.length = 0 ∧ (Disk.load lf).count = 0 ∧ (Disk.load lf).off = false := ⟨load_waiting, rfl, rfl, rfl⟩
  have HEL := Lib.hid hel
  rw [← hlf] at KC3 HPURE
  have KRL : Hid (∀ W v, Frm (fun _ => False) w11 W → ImgRd W v lf → Calls Tryz.prog 19 #[v] W fun e w' => ∃ b', e = .returned (.tuple #[.pointer (some ⟨b', 0, none⟩), .nilIface]) ∧ Still w' b' eb (Disk.load lf) ∧ Frm (fun _ => False) W w') := fun W v hW hv => by
    rw [hlf] at hv ⊢
    exact (HS11.out.frm hW).reload fs fn v hv trivial
  clear hlf hel
  go_upto_region 15 with (first
    | (go_at_call 17; refine KC3.out.mono ?_; rintro e w12 ⟨A12, c12, rfl, hr12, f12⟩; have HX12 := Lib.hid (And.intro f12 hr12); have KR2 := Lib.hid (KRL.out (w12.alloc (.cells #[.slice A12 lf.length c12] 36)) (.agg #[.slice A12 lf.length c12]) (f12.alloc _) (hr12.frm ((Frm.refl _ _).alloc _))); clear hr12 f12)
    | (go_at_call 19; refine KR2.out.mono ?_; rintro e w13 ⟨b13, rfl, st13, f13⟩; have HX13 := Lib.hid (And.intro st13 f13); have KW2 := Lib.hid st13.waiting; clear st13 f13)
    | (go_at_call 16; unfold dptr at KW2; refine KW2.out.mono ?_; rintro e w14 ⟨rfl, f14⟩; rw [HEL.out.1, HEL.out.2.1]; have HX14 := Lib.hid f14; clear f14))
  have f1214 : Frm (fun _ => False) w12 w14 := (((Frm.refl _ _).alloc _).trans HX13.out.2 (fun _ _ h => h)).trans HX14.out (fun _ _ h => h)
  have f1114 : Frm (fun _ => False) w11 w14 := HX12.out.1.trans f1214 (fun _ _ h => h)
  have hrd : ImgRd w14 (.agg #[.slice A12 lf.length c12]) lf := HX12.out.2.frm f1214
  have hst : Still w14 b13 eb (Disk.load lf) := HX13.out.1.frm HX14.out
  have hb11 : w14.heap[w12.heap.size]? = some (.cells #[.slice A12 lf.length c12] 36 (0, 0)) := (((HX13.out.2.trans HX14.out (fun _ _ h => h)).block _ (by simp) id)).trans blk_alloc
  have hb5 := (f1114.block _ (Da.blk_lt HFW.out.2) id).trans HFW.out.2
  have hfr : Frm (fun _ => False) w w14 := HFW.out.1.trans f1114 (fun _ _ h => h)
  have hseen : (Disk.load lf).seenImg = lf := HPURE.out.1
  have hcr : ∀ gs k, (Disk.load lf).crash gs k = lf := HPURE.out.2.1
  have KS2 : Hid (∀ W, Frm (fun _ => False) w14 W → Calls Tryz.prog 29 #[dptr b13] W fun e w' => ∃ A c, e = .returned (.agg #[.slice A lf.length c]) ∧ ImgRd w' (.agg #[.slice A lf.length c]) lf ∧ Frm (fun _ => False) w14 w') := fun W hW => by
    have := (hst.frm hW).seen
    rw [hseen] at this
    exact this.mono (by rintro e w' ⟨A, c, e1, e2, e3⟩; exact ⟨A, c, e1, e2, hW.trans e3 (fun _ _ h => h)⟩)
  have KF2 : Hid (∀ W, Frm (fun _ => False) w14 W → Calls Tryz.prog 31 #[dptr b13] W fun e w' => ∃ A c, e = .returned (.agg #[.slice A lf.length c]) ∧ ImgRd w' (.agg #[.slice A lf.length c]) lf ∧ Frm (fun _ => False) w14 w') := fun W hW => by
    have := (hst.frm hW).safe
    rw [hcr] at this
    exact this.mono (by rintro e w' ⟨A, c, e1, e2, e3⟩; exact ⟨A, c, e1, e2, hW.trans e3 (fun _ _ h => h)⟩)
  have KC4 : Hid (∀ W, Frm (fun _ => False) w14 W → Calls Tryz.prog 17 #[dptr b13, .agg #[.slice Af fs.length cf, .int .i64 fn]] W fun e w' => ∃ A c, e = .returned (.agg #[.slice A lf.length c]) ∧ ImgRd w' (.agg #[.slice A lf.length c]) lf ∧ Frm (fun _ => False) w14 w') := fun W hW => by
    have := (hst.frm hW).crash fs fn Af cf (fun j hj => by obtain ⟨ad, e, hc⟩ := HFS.out j hj; exact ⟨ad, e, frm_cell (hfr.trans hW (fun _ _ h => h)) hc⟩) hfl
    rw [hcr] at this
    exact this.mono (by rintro e w' ⟨A, c, e1, e2, e3⟩; exact ⟨A, c, e1, e2, hW.trans e3 (fun _ _ h => h)⟩)
  have KO : Hid (∀ W, Frm (fun _ => False) w14 W → Calls Tryz.prog 33 #[dptr b13] W fun e w' => e = .returned (.int .i64 0) ∧ w' = W) := fun W hW => by
    have := (hst.frm hW).ops
    rw [HEL.out.2.2.1] at this; exact this
  have KD : Hid (∀ W, Frm (fun _ => False) w14 W → Calls Tryz.prog 35 #[dptr b13] W fun e w' => e = .returned (.bool false) ∧ w' = W) := fun W hW => by
    have := (hst.frm hW).down
    rw [HEL.out.2.2.2] at this; exact this
  have zz : Hid (∀ W, Frm (fun _ => False) w14 W → W.cell? ⟨w12.heap.size, 0, none⟩ = some (.slice A12 lf.length c12) ∧ W.cell? ⟨w.heap.size + 1, 0, none⟩ = some (.slice Af fs.length cf) ∧ W.cell? ⟨w.heap.size + 1, 1, none⟩ = some (.int .i64 fn)) := fun W hW =>
    ⟨cell_of ((hW.block _ (Da.blk_lt hb11) id).trans hb11) rfl, cell_of ((hW.block _ (Da.blk_lt hb5) id).trans hb5) rfl, cell_of ((hW.block _ (Da.blk_lt hb5) id).trans hb5) rfl⟩
  have S0 := zz.out w14 (Frm.refl _ _)
  have D0 := zz.out w14.drew (Frm.refl _ _).drew
  have HRD := Lib.hid hrd
  have HOK : Hid (ImgOk lf) := HPURE.out.2.2
  have HFR := Lib.hid hfr
  clear f1214 f1114 hrd hst hb11 hb5 hfr hseen hcr KR2 KRL HX12 HX13 HX14 KW2 KC3 HFW HS11 HPURE HEL HLF z50 z51
  generalize w12.heap.size = q2 at *
  unfold dptr at KS2 KF2 KC4 KO KD
  go_region_held3 (fun w' => w'.cell? ⟨q2, 0, none⟩ = some (.slice A12 lf.length c12) ∧ w'.cell? ⟨w.heap.size + 1, 0, none⟩ = some (.slice Af fs.length cf) ∧ w'.cell? ⟨w.heap.size + 1, 1, none⟩ = some (.int .i64 fn))
    (first | exact S0 | exact D0 | exact zz.out _ HX1.out.1 | exact zz.out _ HX2.out | exact zz.out _ HX3.out.1 | exact zz.out _ HX4.out | exact zz.out _ HX5.out.1 | exact zz.out _ HX6.out | go_keep)
    (first
      | (go_at_call 29; (with_reducible refine (KS2.out _ (by first | exact Frm.refl _ _ | exact (Frm.refl _ _).drew)).mono ?_); rintro e u1 ⟨A1, c1, rfl, hr1, f1⟩; have HX1 := Lib.hid (And.intro f1 hr1); clear hr1 f1)
      | (go_at_call 28; (with_reducible refine (KI.out _ _ _ lf HX1.out.2 (HRD.out.frm HX1.out.1) HOK.out).mono ?_); rintro e u2 ⟨rfl, f2⟩; have HX2 : Hid (Frm (fun _ => False) w14 u2) := Lib.hid (HX1.out.1.trans f2 (fun _ _ h => h)); clear f2)
      | (go_at_call 31; (with_reducible refine (KF2.out _ HX2.out).mono ?_); rintro e u3 ⟨A3, c3, rfl, hr3, f3⟩; have HX3 := Lib.hid (And.intro f3 hr3); clear hr3 f3)
      | (go_at_call 28; (with_reducible refine (KI.out _ _ _ lf HX3.out.2 (HRD.out.frm HX3.out.1) HOK.out).mono ?_); rintro e u4 ⟨rfl, f4⟩; have HX4 : Hid (Frm (fun _ => False) w14 u4) := Lib.hid (HX3.out.1.trans f4 (fun _ _ h => h)); clear f4)
      | (go_at_call 17; (with_reducible refine (KC4.out _ HX4.out).mono ?_); rintro e u5 ⟨A5, c5, rfl, hr5, f5⟩; have HX5 := Lib.hid (And.intro f5 hr5); clear hr5 f5)
      | (go_at_call 28; (with_reducible refine (KI.out _ _ _ lf HX5.out.2 (HRD.out.frm HX5.out.1) HOK.out).mono ?_); rintro e u6 ⟨rfl, f6⟩; have HX6 : Hid (Frm (fun _ => False) w14 u6) := Lib.hid (HX5.out.1.trans f6 (fun _ _ h => h)); clear f6)
      | (go_at_call 33; (with_reducible refine (KO.out _ HX6.out).mono ?_); rintro e u7 ⟨rfl, rfl⟩)
      | (go_at_call 35; (with_reducible refine (KD.out _ HX6.out).mono ?_); rintro e u8 ⟨rfl, rfl⟩))
  all_goals
    go_wp2
    go_ret
    exact ⟨rfl, HFR.out.trans HX6.out (fun _ _ h => h)⟩
end Go.Proofs.YtglhedahannjiaaGreatDoor.Dw
