/- A part of the proof of diskFails_holds: LawFails, Read, Fn. No condition. -/
import Derived.Deep.Slices
import Derived.Deep.Fields
import Derived.ChangeSame
import Derived.SizedLaws
import Derived.Carry
import Derived.Test.YtglhedahannjiaaGreatDoorC30

/- Walks: DiskFails. -/
namespace Go.Proofs.YtglhedahannjiaaGreatDoor.Dw
open Go.RowKit Go.ChangeMaps Go.Proofs.YtglhedahannjiaaGreatDoor.Mp Go.Proofs.YtglhedahannjiaaGreatDoor.Dm Go.Proofs.YtglhedahannjiaaGreatDoor.Da
open Go.Proofs.YtglhedahannjiaaGreatDoorW.PrintWords (Kd ReadsInt)
set_option linter.unusedVariables false
set_option linter.unusedSimpArgs false
set_option linter.unusedSectionVars false
theorem Next.askC {B : Nat} {w0 w wa : World} {b : Nat} {lab : Nat → Option Lb} {eb : Nat → Addr} {n m m2 : Nat} {D : Disk} (h : Next B w0 lab w b eb l7 n m D) (h15 : Errs15 B w eb) (hBw : B ≤ w.heap.size) (hw : Frm (fun k => B ≤ k) wa w) (hB : wa.heap.size ≤ B) (o : OpS) (v : Value) (ho : OpIn wa o v) (ok : OpOk o) (hmm : m ≤ m2) (hmd : o.kind = 2 → m + o.data.length ≤ m2) (hf : DFit (n + 1) m2) :
    Calls Tryz.prog 25 #[dptr b, v] w fun e w' => ∃ av, e = .returned av ∧ AnsAt w' w.heap.size av (D.ask o).1 ∧ Next B w0 lab w' b eb l7 (n + 1) m2 (D.ask o).2 := by
  obtain ⟨lab1, h1, h2⟩ := h.then_
  refine (asked_calls h1 h15 hBw hw hB o v ho ok hmm hmd hf).mono ?_
  rintro e w' ⟨av, e1, e2, e3⟩
  exact ⟨av, e1, e2, h2 e3⟩
theorem fails_row {w : World} (part : Int) : FailsAt (w.alloc (.cells #[.int .i64 1, .int .i64 part] 75)) (.slice (some ⟨w.heap.size, 0, none⟩) ([((1 : Int), part)] : List (Int × Int)).length 1) [(1, part)] := by
  refine ⟨_, 1, rfl, fun j u hu => ⟨_, rfl, ?_⟩⟩
  rw [add_off, Nat.zero_add]
  refine cell_of blk_alloc ?_
  simpa [failCells] using hu
theorem str_append (xs ys : List Int) : strOfNums (xs ++ ys) = strOfNums xs ++ strOfNums ys := by
  apply ByteArray.ext
  apply Array.toList_inj.1
  rw [ByteArray.data_append, Array.toList_append, strOfNums_data, strOfNums_data, strOfNums_data, List.map_append]
set_option maxHeartbeats 4000000 in
set_option maxRecDepth 100000 in
theorem law_fails {w : World} {eb : Nat → Addr} (h15 : Errs15 w.heap.size w eb) {vi : Value} {l : List Plain} {As : Option Addr} {os : List OpS} {cs : Nat} (ha : ArgsOk w vi l As os cs) (o : OpS) {vo : Value} (ho : OpIn w o vo) (ok : OpOk o) (hod : o.data.length ≤ 140737488355328) (part : Int) (hpart : -9223372036854775808 ≤ part ∧ part ≤ 9223372036854775807)
    (fs : List Int) (fn : Int) (Af : Option Addr) (cf : Nat) (hfs : ∀ j (hj : j < fs.length), ∃ ad, Af = some ad ∧ w.cell? (ad.add j) = some (.int .i64 fs[j])) (hfl : fs.length ≤ 4611686018427387904) :
    Calls Tryz.prog 7 #[vi, .slice As os.length cs, vo, .int .i64 part, .agg #[.slice Af fs.length cf, .int .i64 fn]] w fun e w' => e = .returned (.bool true) ∧ Frm (fun _ => False) w w' := by
  obtain ⟨Ai, ci, rfl, hci, hCi⟩ := id ha.img
  obtain ⟨A1, c1, A2, c2, A3, c3, rfl, ho1, ho2, ho3, ho4⟩ := id ho
  have KL : Hid (∀ W, Frm (fun _ => False) w W → Calls Tryz.prog 10 #[] W fun e w' => e = .returned (.bool true) ∧ Frm (fun _ => False) W w') := fun W hW => lives_calls ((h15.frm hW (fun _ h => h.elim)).up hW.size).errs
  have KP : Hid (∀ W, Frm (fun _ => False) w W → Calls Tryz.prog 38 #[.agg #[.slice Ai l.length ci], .slice As os.length cs] W fun e w' => ∃ b lab n m D, e = .returned (dptr b) ∧ Live W.heap.size w' b lab eb l7 n m D ∧ n ≤ 1052672 ∧ m ≤ 1048576 ∧ Frm (fun _ => False) W w') :=
    fun W hW => ha.played h15 hW
  have HFS := Lib.hid hfs
  have H15 := Lib.hid h15
  have HO := Lib.hid (And.intro ho (And.intro ok (And.intro ho1 ho2)))
  have KOP := Lib.hid (fun W => operation_calls W o.kind)
  clear ha h15 hfs hCi ho ok ho1 ho2 ho3 ho4
  go_enter Tryz.func7, Tryz.ntmps7
  go_upto_region 1 with (fail)
  obtain ⟨w0, hw0⟩ : ∃ w0, w0 = ((w.alloc (.cells #[.slice Ai l.length ci] 36)).alloc (.cells #[.int .i64 o.kind, .string o.name, .string o.to_, .slice A1 o.data.length c1, .int .i64 o.n, .slice A2 o.fails.length c2, .int .i64 o.cut, .slice A3 o.fs.length c3, .int .i64 o.fn] 55)).alloc (.cells #[.slice Af fs.length cf, .int .i64 fn] 39) := ⟨_, rfl⟩
  rw [← hw0]
  have f0 : Frm (fun _ => False) w w0 := by rw [hw0]; exact (((Frm.refl _ _).alloc _).alloc _).alloc _
  have b0 : w0.heap[w.heap.size]? = some (.cells #[.slice Ai l.length ci] 36 (0, 0)) := by rw [hw0]; exact (blk_alloc_lt (by simp only [World.size_alloc]; omega)).trans ((blk_alloc_lt (by simp only [World.size_alloc]; omega)).trans blk_alloc)
  have b1 : w0.heap[w.heap.size + 1]? = some (.cells #[.int .i64 o.kind, .string o.name, .string o.to_, .slice A1 o.data.length c1, .int .i64 o.n, .slice A2 o.fails.length c2, .int .i64 o.cut, .slice A3 o.fs.length c3, .int .i64 o.fn] 55 (0, 0)) := by
    rw [hw0]
    refine (blk_alloc_lt (by simp only [World.size_alloc]; omega)).trans ?_
    have := blk_alloc (w := w.alloc (.cells #[.slice Ai l.length ci] 36)) (o := .cells #[.int .i64 o.kind, .string o.name, .string o.to_, .slice A1 o.data.length c1, .int .i64 o.n, .slice A2 o.fails.length c2, .int .i64 o.cut, .slice A3 o.fs.length c3, .int .i64 o.fn] 55)
    simpa only [World.size_alloc] using this
  have b2 : w0.heap[w.heap.size + 1 + 1]? = some (.cells #[.slice Af fs.length cf, .int .i64 fn] 39 (0, 0)) := by
    rw [hw0]
    have := blk_alloc (w := (w.alloc (.cells #[.slice Ai l.length ci] 36)).alloc (.cells #[.int .i64 o.kind, .string o.name, .string o.to_, .slice A1 o.data.length c1, .int .i64 o.n, .slice A2 o.fails.length c2, .int .i64 o.cut, .slice A3 o.fs.length c3, .int .i64 o.fn] 55)) (o := .cells #[.slice Af fs.length cf, .int .i64 fn] 39)
    simpa only [World.size_alloc] using this
  have H0 := Lib.hid (And.intro f0 (And.intro b0 (And.intro b1 b2)))
  clear f0 b0 b1 b2 hw0
  go_upto_region 6 with (first
    | (go_at_call 10; refine (KL.out _ H0.out.1).mono ?_; rintro e w1 ⟨rfl, f1⟩; have F1 : Hid (Frm (fun _ => False) w0 w1) := Lib.hid f1; have x3 : w1.cell? ⟨w.heap.size, 0, none⟩ = some (.slice Ai l.length ci) := cell_of ((f1.block _ (Da.blk_lt H0.out.2.1) id).trans H0.out.2.1) rfl; clear f1)
    | (go_at_call 38; refine (KP.out _ (H0.out.1.trans F1.out (fun _ _ h => h))).mono ?_; rintro e w2 ⟨b, lab, n, m, D0, rfl, hL, hn, hm, f2⟩; have KF := Lib.hid (fresh_calls hL f2.size); have HLV := Lib.hid (And.intro hL (And.intro f2 (And.intro hn hm))); clear hL f2 hn hm x3)
    | (go_at_call 37; refine KF.out.mono ?_; rintro e w3 ⟨b3, rfl, lab3, hL3, hf3, _⟩; unfold dptr; have HL3 := Lib.hid (And.intro hL3 ((HLV.out.2.1.trans hf3 (fun k hk hl => by have := HLV.out.1.base k hl; omega)))); clear hL3 hf3))
  obtain ⟨hL, hfr3⟩ := HL3.out
  have hn := HLV.out.2.2.1
  have hm := HLV.out.2.2.2
  have hq := fresh_quiet D0
  have hB : w0.heap.size ≤ w1.heap.size := F1.out.size
  have f03 : Frm (fun _ => False) w0 w3 := F1.out.trans hfr3 (fun _ _ h => h)
  have hfr : Frm (fun _ => False) w w3 := H0.out.1.trans f03 (fun _ _ h => h)
  have hop3 := (f03.block _ (Da.blk_lt H0.out.2.2.1) id).trans H0.out.2.2.1
  have hfa3 := (f03.block _ (Da.blk_lt H0.out.2.2.2) id).trans H0.out.2.2.2
  have hl0 := Da.blk_lt H0.out.2.2.1
  have hl1 := Da.blk_lt H0.out.2.2.2
  have hs0 := H0.out.1.size
  generalize w1.heap.size = B at *
  clear KL KP KF HLV HL3 F1 H0 hfr3 f03
  generalize D0.fresh = D at *
  have x50 : w3.cell? ⟨w.heap.size + 1, 0, none⟩ = some (.int .i64 o.kind) := cell_of hop3 rfl
  have x53 : w3.cell? ⟨w.heap.size + 1, 3, none⟩ = some (.slice A1 o.data.length c1) := cell_of hop3 rfl
  have HL := Lib.hid (And.intro hL (And.intro hfr (And.intro hop3 (And.intro hfa3 (And.intro hl0 (And.intro hl1 (And.intro hs0 (And.intro hB (And.intro hq (And.intro hn hm))))))))))
  clear hL hfr hop3 hfa3 hl0 hl1 hs0 hB hq hn hm
  by_cases hko : (decide (1 ≤ o.kind) && decide (o.kind ≤ 7)) = true
  · by_cases hkd : 1048576 < o.data.length
    · rw [hko] at KOP
      go_wp2_with (first | (go_at_call 41; refine (KOP.out _).mono ?_; rintro e w4 ⟨rfl, rfl⟩))
      go_ret
      exact ⟨rfl, HL.out.2.1⟩
    · rw [hko] at KOP
      have hk17 : 1 ≤ o.kind ∧ o.kind ≤ 7 := by simpa using hko
      obtain ⟨hL, hfr, hop3, hfa3, hl0, hl1, hs0, hB, hq, hn, hm⟩ := HL.out
      have KS : Hid (∀ W, Frm (fun _ => False) w3 W → Calls Tryz.prog 29 #[dptr b3] W fun e w' => ∃ A c, e = .returned (.agg #[.slice A D.seenImg.length c]) ∧ ImgAt w' W.heap.size (.agg #[.slice A D.seenImg.length c]) D.seenImg ∧ Frm (fun _ => False) W w') := fun W hW => (hL.self.on hW).seenC
      have KSF : Hid (∀ W, Frm (fun _ => False) w3 W → Calls Tryz.prog 31 #[dptr b3] W fun e w' => ∃ A c, e = .returned (.agg #[.slice A (D.crash [] 0).length c]) ∧ ImgAt w' W.heap.size (.agg #[.slice A (D.crash [] 0).length c]) (D.crash [] 0) ∧ Frm (fun _ => False) W w') := fun W hW => (hL.self.on hW).safeC
      have KC : Hid (∀ W, Frm (fun _ => False) w3 W → Calls Tryz.prog 17 #[dptr b3, .agg #[.slice Af fs.length cf, .int .i64 fn]] W fun e w' => ∃ A c, e = .returned (.agg #[.slice A (D.crash fs fn).length c]) ∧ ImgAt w' W.heap.size (.agg #[.slice A (D.crash fs fn).length c]) (D.crash fs fn) ∧ Frm (fun _ => False) W w') := fun W hW =>
        (hL.self.on hW).crashC fs fn Af cf (fun j hj => by obtain ⟨ad, e, hc⟩ := HFS.out j hj; exact ⟨ad, e, frm_cell (hfr.trans hW (fun _ _ h => h)) hc⟩) hfl
      have KO : Hid (∀ W, Frm (fun _ => False) w3 W → Calls Tryz.prog 33 #[dptr b3] W fun e w' => e = .returned (.int .i64 D.count) ∧ w' = W) := fun W hW => (hL.self.on hW).opsC
      have zf : Hid (∀ W, Frm (fun _ => False) w3 W → W.cell? ⟨w.heap.size + 1 + 1, 0, none⟩ = some (.slice Af fs.length cf) ∧ W.cell? ⟨w.heap.size + 1 + 1, 1, none⟩ = some (.int .i64 fn)) := fun W hW =>
        ⟨cell_of ((hW.block _ (Da.blk_lt hfa3) id).trans hfa3) rfl, cell_of ((hW.block _ (Da.blk_lt hfa3) id).trans hfa3) rfl⟩
      have KAR : Hid (∀ W1 W2, Frm (fun _ => False) w3 W1 → W2 = W1.alloc (.cells #[.int .i64 1, .int .i64 part] 75) → Calls Tryz.prog 42 #[dptr b3, .slice (some ⟨W1.heap.size, 0, none⟩) 1 1, .int .i64 0] W2 fun e w' => e = .returned (.tuple #[]) ∧ Next B W1 lab3 w' b3 eb l7 n m (D.arm [(1, part)] 0)) := fun W1 W2 hW e2 => by
        subst e2
        have h1 := (hL.frm hW).self
        exact (h1.on ((Frm.refl _ _).alloc _)).armC _ [(1, part)] 0 (fails_row part) (by simp)
      have hlt3 := hL.lab_lt
      have hbase := hL.base
      have HQ := Lib.hid (And.intro hq (And.intro hL.inv (And.intro hlt3 (And.intro hbase (And.intro hL.sz hk17)))))
      clear hL hfr hop3 hfa3 hq hlt3 hbase hk17
      unfold dptr at KS KSF KC KO KAR
      obtain ⟨s1, hs1⟩ : ∃ s1, s1 = D.seenImg := ⟨_, rfl⟩
      obtain ⟨s2, hs2⟩ : ∃ s2, s2 = D.crash [] 0 := ⟨_, rfl⟩
      obtain ⟨s3, hs3⟩ : ∃ s3, s3 = D.crash fs fn := ⟨_, rfl⟩
      rw [← hs1] at KS
      rw [← hs2] at KSF
      rw [← hs3] at KC
      have HSS := Lib.hid (And.intro hs1 (And.intro hs2 hs3))
      clear hs1 hs2 hs3
      go_upto_region 12 with (first
        | (go_at_call 41; refine (KOP.out _).mono ?_; rintro e w3 ⟨rfl, rfl⟩)
        | (go_at_call 29; refine (KS.out _ (Frm.refl _ _)).mono ?_; rintro e w4 ⟨p4, c4, rfl, hi4, f4⟩; have H4 := Lib.hid (And.intro hi4 f4); clear hi4 f4)
        | (go_at_call 31; refine (KSF.out _ (H4.out.2.alloc _)).mono ?_; rintro e w5 ⟨p5, c5, rfl, hi5, f5⟩; have H5 := Lib.hid (And.intro hi5 (And.intro f5 ((H4.out.2.alloc _).trans f5 (fun _ _ h => h)))); have z5 := zf.out _ (H5.out.2.2.alloc (.cells #[.slice p5 s2.length c5] 36)); clear hi5 f5)
        | (go_at_call 17; refine (KC.out _ (H5.out.2.2.alloc _)).mono ?_; rintro e w6 ⟨p6, c6, rfl, hi6, f6⟩; have H6 := Lib.hid (And.intro hi6 (And.intro f6 ((H5.out.2.2.alloc _).trans f6 (fun _ _ h => h)))); clear hi6 f6)
        | (go_at_call 33; refine (KO.out _ (H6.out.2.2.alloc _)).mono ?_; rintro e w7 ⟨rfl, rfl⟩))
      obtain ⟨W6, hW6⟩ : ∃ W6, W6 = w6.alloc (.cells #[.slice p6 s3.length c6] 36) := ⟨_, rfl⟩
      rw [← hW6]
      obtain ⟨hL, hfr, hop3, hfa3, hl0, hl1, hs0, hB, hq, hn, hm⟩ := HL.out
      have f66 : Frm (fun _ => False) w6 W6 := by rw [hW6]; exact (Frm.refl _ _).alloc _
      have f56 : Frm (fun _ => False) w5 W6 := (((Frm.refl _ _).alloc _).trans H6.out.2.1 (fun _ _ h => h)).trans f66 (fun _ _ h => h)
      have f46 : Frm (fun _ => False) w4 W6 := (((Frm.refl _ _).alloc _).trans H5.out.2.1 (fun _ _ h => h)).trans f56 (fun _ _ h => h)
      have f36 : Frm (fun _ => False) w3 W6 := H4.out.2.trans f46 (fun _ _ h => h)
      have q1 : W6.heap[w4.heap.size]? = some (.cells #[.slice p4 s1.length c4] 36 (0, 0)) := (((H5.out.2.1.trans f56 (fun _ _ h => h)).block _ (by simp) id)).trans blk_alloc
      have q2 : W6.heap[w5.heap.size]? = some (.cells #[.slice p5 s2.length c5] 36 (0, 0)) := (((H6.out.2.1.trans f66 (fun _ _ h => h)).block _ (by simp) id)).trans blk_alloc
      have q3 : W6.heap[w6.heap.size]? = some (.cells #[.slice p6 s3.length c6] 36 (0, 0)) := by rw [hW6]; exact blk_alloc
      have qo := (f36.block _ (Da.blk_lt hop3) id).trans hop3
      have qf := (f36.block _ (Da.blk_lt hfa3) id).trans hfa3
      have i1 := H4.out.1.keep f46 (fun _ h => h.elim)
      have i2 := H5.out.1.keep f56 (fun _ h => h.elim)
      have i3 := H6.out.1.keep f66 (fun _ h => h.elim)
      have z4 := H4.out.2.size
      have z5' := H5.out.2.2.size
      have z6 := H6.out.2.2.size
      have hlt3 := hL.lab_lt
      have hbase := hL.base
      have HW : Hid (∀ W n' m' D', Next B W6 lab3 W b3 eb l7 n' m' D' → Frm (fun _ => False) w W ∧ Frm (fun k => B ≤ k) w W ∧ ImgRd W (.agg #[.slice p4 s1.length c4]) s1 ∧ ImgRd W (.agg #[.slice p5 s2.length c5]) s2 ∧ ImgRd W (.agg #[.slice p6 s3.length c6]) s3 ∧ W.heap[w4.heap.size]? = some (.cells #[.slice p4 s1.length c4] 36 (0, 0)) ∧ W.heap[w5.heap.size]? = some (.cells #[.slice p5 s2.length c5] 36 (0, 0)) ∧ W.heap[w6.heap.size]? = some (.cells #[.slice p6 s3.length c6] 36 (0, 0)) ∧
          W.heap[w.heap.size + 1]? = some (.cells #[.int .i64 o.kind, .string o.name, .string o.to_, .slice A1 o.data.length c1, .int .i64 o.n, .slice A2 o.fails.length c2, .int .i64 o.cut, .slice A3 o.fs.length c3, .int .i64 o.fn] 55 (0, 0)) ∧ W.heap[w.heap.size + 1 + 1]? = some (.cells #[.slice Af fs.length cf, .int .i64 fn] 39 (0, 0))) := by
        intro W n' m' D' h
        have hf := h.frmF
        have hft : Frm (fun _ => False) w W := (hfr.trans f36 (fun _ _ h => h)).trans hf (fun k hk hl => by have := hbase k hl; omega)
        have k1 : ∀ g, w3.heap.size ≤ g → ¬ Ft lab3 g := fun g hg hl => by have := hlt3 g hl; omega
        have k2 : ∀ g, g < B → ¬ Ft lab3 g := fun g hg hl => by have := hbase g hl; omega
        refine ⟨hft, hft.mono (fun _ _ h => h.elim), (i1.keep hf (fun k hl => hlt3 k hl)).rd, (i2.keep hf (fun k hl => ?_)).rd, (i3.keep hf (fun k hl => ?_)).rd, (hf.block _ (Da.blk_lt q1) (k1 _ z4)).trans q1, (hf.block _ (Da.blk_lt q2) (k1 _ z5')).trans q2, (hf.block _ (Da.blk_lt q3) (k1 _ z6)).trans q3, (hf.block _ (Da.blk_lt qo) (k2 _ (by omega))).trans qo, (hf.block _ (Da.blk_lt qf) (k2 _ (by omega))).trans qf⟩
        · have := hlt3 k hl; simp only [World.size_alloc]; omega
        · have := hlt3 k hl; simp only [World.size_alloc]; omega
      have hBw3 : B ≤ w3.heap.size := by
        obtain ⟨A, hd⟩ := hL.dsk
        have := hd.base _ _ hd.lb
        omega
      have hs36 := f36.size
      have KA2 : Hid (∀ W2, W2 = W6.alloc (.cells #[.int .i64 1, .int .i64 part] 75) → Calls Tryz.prog 42 #[.pointer (some ⟨b3, 0, none⟩), .slice (some ⟨W6.heap.size, 0, none⟩) 1 1, .int .i64 0] W2 fun e w' => e = .returned (.tuple #[]) ∧ Next B W6 lab3 w' b3 eb l7 n m (D.arm [(1, part)] 0)) := fun W2 h => KAR.out W6 W2 f36 h
      have KAS : Hid (∀ W, Next B W6 lab3 W b3 eb l7 n m (D.arm [(1, part)] 0) → Calls Tryz.prog 25 #[dptr b3, .agg #[.int .i64 o.kind, .string o.name, .string o.to_, .slice A1 o.data.length c1, .int .i64 o.n, .slice A2 o.fails.length c2, .int .i64 o.cut, .slice A3 o.fs.length c3, .int .i64 o.fn]] W fun e w' => ∃ av, e = .returned av ∧ AnsAt w' W.heap.size av ((D.arm [(1, part)] 0).ask o).1 ∧ Next B W6 lab3 w' b3 eb l7 (n + 1) (m + o.data.length) ((D.arm [(1, part)] 0).ask o).2) := fun W h => by
        have hw := HW.out _ _ _ _ h
        have hx := h.frmF.size
        exact h.askC ((H15.out.frm hw.1 (fun _ h => h.elim)).up (by omega)) (by omega) hw.2.1 (by omega) o _ HO.out.1 HO.out.2.1 (by omega) (fun _ => Nat.le_refl _) (.small (by omega) (by omega))
      have hfail := ask_fails HQ.out.2.1 HQ.out.1.off o part HQ.out.2.2.2.2.2.1 HQ.out.2.2.2.2.2.2
      have hcount : D.count ≤ 1052672 := Nat.le_trans hL.sz.count hn
      have HFA := Lib.hid hfail
      obtain ⟨E, hE⟩ : ∃ E, E = ((D.arm [(1, part)] 0).ask o).2 := ⟨_, rfl⟩
      obtain ⟨an, han⟩ : ∃ an, an = ((D.arm [(1, part)] 0).ask o).1 := ⟨_, rfl⟩
      rw [← hE, ← han] at KAS HFA
      have HEE := Lib.hid hE
      have hae : an.e = 6 := HFA.out.1
      clear hL hfr hop3 hfa3 hl0 hl1 hs0 hB hq hn hm f66 f56 f46 f36 hBw3 hs36 q1 q2 q3 qo qf i1 i2 i3 z4 z5 z5' z6 hlt3 hbase hfail hW6 hE han KS KSF KC KO KAR zf KOP x50 x53 H4 H5 H6
      unfold dptr at KAS
      go_upto_region 14 with (first
        | (go_at_call 42; refine (KA2.out _ rfl).mono ?_; rintro e w7 ⟨rfl, h7⟩; have HX7 := Lib.hid h7; have HY7 := HW.out _ _ _ _ h7; have y0 : w7.cell? ⟨w.heap.size + 1, 0, none⟩ = _ := cell_of HY7.2.2.2.2.2.2.2.2.1 rfl; have y1 : w7.cell? ⟨w.heap.size + 1, 1, none⟩ = _ := cell_of HY7.2.2.2.2.2.2.2.2.1 rfl; have y2 : w7.cell? ⟨w.heap.size + 1, 2, none⟩ = _ := cell_of HY7.2.2.2.2.2.2.2.2.1 rfl; have y3 : w7.cell? ⟨w.heap.size + 1, 3, none⟩ = _ := cell_of HY7.2.2.2.2.2.2.2.2.1 rfl; have y4 : w7.cell? ⟨w.heap.size + 1, 4, none⟩ = _ := cell_of HY7.2.2.2.2.2.2.2.2.1 rfl; have y5 : w7.cell? ⟨w.heap.size + 1, 5, none⟩ = _ := cell_of HY7.2.2.2.2.2.2.2.2.1 rfl; have y6 : w7.cell? ⟨w.heap.size + 1, 6, none⟩ = _ := cell_of HY7.2.2.2.2.2.2.2.2.1 rfl; have y7 : w7.cell? ⟨w.heap.size + 1, 7, none⟩ = _ := cell_of HY7.2.2.2.2.2.2.2.2.1 rfl; have y8 : w7.cell? ⟨w.heap.size + 1, 8, none⟩ = _ := cell_of HY7.2.2.2.2.2.2.2.2.1 rfl; clear h7 HY7)
        | (go_at_call 25; refine (KAS.out _ HX7.out).mono ?_; rintro e w8 ⟨av, rfl, ⟨dv, bv, sv, iv, rfl, hans⟩, h8⟩; obtain ⟨g1, g2, rfl⟩ := own_form hans.data; obtain ⟨g3, g4, rfl⟩ := own_form hans.bad; obtain ⟨g5, g6, rfl⟩ := own_form hans.strs; obtain ⟨g7, g8, rfl⟩ := Kd.R_slice hans.img; rw [hae]; have HX8 := Lib.hid h8; clear h8 hans))
      obtain ⟨w9, hw9⟩ : ∃ w9, w9 = w8.alloc (.cells #[.int .i64 6, .slice g1 an.data.length g2, .slice g3 an.bad.length g4, .slice g5 an.strs.length g6, .slice g7 an.img.length g8, .int .i64 an.a, .int .i64 an.b, .bool an.yes] 59) := ⟨_, rfl⟩
      rw [← hw9]
      have nx9 : Next B W6 lab3 w9 b3 eb l7 (n + 1) (m + o.data.length) E := by rw [hw9]; exact HX8.out.on ((Frm.refl _ _).alloc _)
      have r0 : w9.cell? ⟨w8.heap.size, 0, none⟩ = some (.int .i64 6) := by rw [hw9]; exact cell_of blk_alloc rfl
      have KOP2 : Hid (Calls Tryz.prog 33 #[dptr b3] w9 fun e w' => e = .returned (.int .i64 ((D.count : Int) + 1)) ∧ w' = w9) := by
        have := nx9.opsC
        rw [HFA.out.2.1] at this
        exact Lib.hid this
      have KDN : Hid (Calls Tryz.prog 35 #[dptr b3] w9 fun e w' => e = .returned (.bool false) ∧ w' = w9) := by
        have := nx9.downC
        rw [HFA.out.2.2.1] at this
        exact Lib.hid this
      have hy9 := HW.out _ _ _ _ nx9
      have v1 : w9.cell? ⟨w4.heap.size, 0, none⟩ = _ := cell_of hy9.2.2.2.2.2.1 rfl
      have v2 : w9.cell? ⟨w.heap.size + 1, 1, none⟩ = _ := cell_of hy9.2.2.2.2.2.2.2.2.1 rfl
      have hll : s1.length ≤ 4611686018427387904 := by
        rw [HSS.out.1]
        have h1 := (seen_len HQ.out.2.1 HQ.out.2.2.2.2.1.len).1
        have h2 := HQ.out.2.2.2.2.1.files
        omega
      have NX9 := Lib.hid nx9
      have KLK := Lib.hid (looked_calls w9 _ s1 o.name hy9.2.2.1 hll (looked s1 o.name) rfl)
      have KSM : Hid (Dm.Alike D E → ∀ W n' m', Next B W6 lab3 W b3 eb l7 n' m' E → Calls Tryz.prog 44 #[dptr b3, .agg #[.slice p4 s1.length c4], .agg #[.slice p5 s2.length c5], .agg #[.slice p6 s3.length c6], .agg #[.slice Af fs.length cf, .int .i64 fn]] W fun e w' => e = .returned (.bool true) ∧ Frm (fun _ => False) W w') := fun hal W n' m' h => by
        have hw := HW.out _ _ _ _ h
        refine same_calls h _ _ _ ?_ ?_ fs fn Af cf ?_ (fun j hj => by obtain ⟨ad, e, hc⟩ := HFS.out j hj; exact ⟨ad, e, frm_cell hw.1 hc⟩) hfl
        · rw [hal.seen, ← HSS.out.1]; exact hw.2.2.1
        · rw [hal.crash, ← HSS.out.2.1]; exact hw.2.2.2.1
        · rw [hal.crash, ← HSS.out.2.2]; exact hw.2.2.2.2.1
      unfold dptr at KOP2 KDN KSM
      have hal := HFA.out.2.2.2.1
      rw [← HSS.out.1] at hal
      have HAL := Lib.hid hal
      clear nx9 hw9 hy9 hll hal HX7 HX8 KA2 KAS y0 y1 y2 y3 y4 y5 y6 y7 y8 hae
      go_upto_region 16 with (first
        | (go_at_call 33; refine KOP2.out.mono ?_; rintro e w9 ⟨rfl, rfl⟩)
        | (go_at_call 35; refine KDN.out.mono ?_; rintro e w9 ⟨rfl, rfl⟩))
      have HU : Hid (∀ W, Frm (fun _ => False) w9 W → Next B W6 lab3 W b3 eb l7 (n + 1) (m + o.data.length) E ∧ W.cell? ⟨w4.heap.size, 0, none⟩ = some (.slice p4 s1.length c4) ∧ W.cell? ⟨w5.heap.size, 0, none⟩ = some (.slice p5 s2.length c5) ∧ W.cell? ⟨w6.heap.size, 0, none⟩ = some (.slice p6 s3.length c6) ∧ W.cell? ⟨w.heap.size + 1, 0, none⟩ = some (.int .i64 o.kind) ∧ W.cell? ⟨w.heap.size + 1 + 1, 0, none⟩ = some (.slice Af fs.length cf) ∧ W.cell? ⟨w.heap.size + 1 + 1, 1, none⟩ = some (.int .i64 fn) ∧ W.cell? ⟨w.heap.size + 1, 3, none⟩ = some (.slice A1 o.data.length c1) ∧ W.cell? ⟨w.heap.size + 1, 1, none⟩ = some (.string o.name)) := fun W f => by
        have nx := NX9.out.on f
        have h := HW.out _ _ _ _ nx
        have ho := h.2.2.2.2.2.2.2.2.1
        exact ⟨nx, cell_of h.2.2.2.2.2.1 rfl, cell_of h.2.2.2.2.2.2.1 rfl, cell_of h.2.2.2.2.2.2.2.1 rfl, cell_of ho rfl, cell_of h.2.2.2.2.2.2.2.2.2 rfl, cell_of h.2.2.2.2.2.2.2.2.2 rfl, cell_of ho rfl, cell_of ho rfl⟩
      cases hr : looked s1 o.name with
      | none =>
        rw [hr] at KLK
        have HR := Lib.hid hr
        clear hr
        by_cases hk2 : o.kind = 2
        · have hk2b : (o.kind == 2) = true := by rw [hk2]; rfl
          have HK := Lib.hid hk2
          clear hk2
          go_wp2_with (first
            | (go_at_call 43; refine KLK.out.mono ?_; rintro e w10 ⟨hla, f10⟩; have hla : e = .returned (.tuple #[.slice none 0 0, .slice none 0 0, .bool false]) := hla; subst hla; obtain ⟨nx10, u1, u2, u3, u4, u5, u6, u7, u8⟩ := HU.out _ f10; have NX10 := Lib.hid nx10; clear f10 nx10)
            | (go_at_call 44; refine (KSM.out (HAL.out (Or.inr (Or.inl HR.out))) _ _ _ NX10.out).mono ?_; rintro e w11 ⟨rfl, f11⟩; have F11 := Lib.hid f11; clear f11))
          go_ret
          exact ⟨rfl, (HW.out _ _ _ _ NX10.out).1.trans F11.out (fun _ _ h => h)⟩
        · have hk2b : (o.kind == 2) = false := beq_eq_false_iff_ne.2 hk2
          have HK := Lib.hid hk2
          clear hk2
          go_wp2_with (first
            | (go_at_call 43; refine KLK.out.mono ?_; rintro e w10 ⟨hla, f10⟩; have hla : e = .returned (.tuple #[.slice none 0 0, .slice none 0 0, .bool false]) := hla; subst hla; obtain ⟨nx10, u1, u2, u3, u4, u5, u6, u7, u8⟩ := HU.out _ f10; have NX10 := Lib.hid nx10; clear f10 nx10)
            | (go_at_call 44; refine (KSM.out (HAL.out (Or.inl HK.out)) _ _ _ NX10.out).mono ?_; rintro e w11 ⟨rfl, f11⟩; have F11 := Lib.hid f11; clear f11))
          go_ret
          exact ⟨rfl, (HW.out _ _ _ _ NX10.out).1.trans F11.out (fun _ _ h => h)⟩
      | some q =>
        rw [hr] at KLK
        have HR := Lib.hid hr
        clear hr
        by_cases hk2 : o.kind = 2
        · have hk2b : (o.kind == 2) = true := by rw [hk2]; rfl
          have HK := Lib.hid hk2
          clear hk2
          by_cases hp0 : part ≤ 0
          · have HP := Lib.hid hp0
            go_wp2_with (first
              | (go_at_call 43; refine KLK.out.mono ?_; rintro e w10 ⟨hla, f10⟩; obtain ⟨a1, a2, a3, a4, a5, rfl, hby⟩ := hla; obtain ⟨nx10, u1, u2, u3, u4, u5, u6, u7, u8⟩ := HU.out _ f10; have NX10 := Lib.hid nx10; clear f10 nx10)
              | (go_at_call 44; refine (KSM.out (HAL.out (Or.inr (Or.inr HP.out))) _ _ _ NX10.out).mono ?_; rintro e w11 ⟨rfl, f11⟩; have F11 := Lib.hid f11; clear f11))
            go_ret
            exact ⟨rfl, (HW.out _ _ _ _ NX10.out).1.trans F11.out (fun _ _ h => h)⟩
          · obtain ⟨pn, hpn⟩ : ∃ pn : Nat, part = (pn : Int) := ⟨part.toNat, by omega⟩
            subst hpn
            have hE := HFA.out.2.2.2.2 q HK.out (by rw [← HSS.out.1]; exact HR.out) (by omega)
            rw [Int.toNat_natCast] at hE
            have hIE : Inv E := NX9.out.inv
            have hql : q.data.length ≤ 4398046511104 := by
              have h1 := (seen_len HQ.out.2.1 HQ.out.2.2.2.2.1.len).2 q (by rw [← HSS.out.1]; exact List.mem_of_find?_eq_some HR.out)
              omega
            have HQL := Lib.hid hql
            obtain ⟨x, hx⟩ : ∃ x, x = o.data.take pn := ⟨_, rfl⟩
            rw [← hx] at hE
            have hap := append_fails HQ.out.2.1 HQ.out.1.off o.name x [(1, (pn : Int))] 0 (by rw [← HSS.out.1]; exact HR.out) (by rw [← hE]; exact hIE)
            rw [← hE] at hap
            have hap2 : ∃ bs, E.read o.name = (0, q.data ++ x, bs) ∧ E.crash [] 0 = s2 := by rw [HSS.out.2.1]; exact hap
            obtain ⟨bs, hap3⟩ := hap2
            have HAP := Lib.hid hap3
            have HXX := Lib.hid hx
            have hxl : x.length ≤ 1048576 := by rw [hx, List.length_take]; omega
            clear hE hIE hap hap3 hx hxl hql 
            obtain ⟨L, hLL⟩ : ∃ L, L = (q.data ++ x).length := ⟨_, rfl⟩
            have HLL := Lib.hid hLL
            clear hLL
            have KRD : Hid (∀ W n' m', Next B W6 lab3 W b3 eb l7 n' m' E → Calls Tryz.prog 45 #[.pointer (some ⟨b3, 0, none⟩), .string o.name] W fun e w' => ∃ p c p2 n2 c2, e = .returned (.tuple #[.slice p L c, .slice p2 n2 c2, .nilIface]) ∧ w'.ownsRow W.heap.size 5 1 (.slice p L c) L (u8s (q.data ++ x)) ∧ Frm (fun _ => False) W w') := fun W n' m' h => by
              have K := h.readC o.name
              rw [HAP.out.1, errV_zero] at K
              simp only [← HLL.out] at K
              refine K.mono ?_
              rintro e w' ⟨dv, bv, rfl, h1, h2, h3⟩
              obtain ⟨p1, c1, rfl⟩ := own_form h1
              obtain ⟨p2, c2, rfl⟩ := own_form h2
              exact ⟨p1, c1, p2, _, c2, rfl, h1, h3⟩
            obtain ⟨N, hN⟩ : ∃ N, N = min pn o.data.length := ⟨_, rfl⟩
            have hxn : x = o.data.take N := by
              rw [HXX.out, hN]
              rcases Nat.le_total pn o.data.length with h | h
              · rw [Nat.min_eq_left h]
              · rw [Nat.min_eq_right h, List.take_length, List.take_of_length_le h]
            have HXN := Lib.hid hxn
            have HN := Lib.hid (show N ≤ o.data.length by rw [hN]; exact Nat.min_le_right _ _)
            have HNM := Lib.hid hN
            clear hxn hN
            go_upto_if 103 with (first
              | (go_at_call 43; refine KLK.out.mono ?_; rintro e w10 ⟨hla, f10⟩; obtain ⟨a1, a2, a3, a4, a5, rfl, hby⟩ := hla; have HBY := Lib.hid hby; obtain ⟨nx10, u1, u2, u3, u4, u5, u6, u7, u8⟩ := HU.out _ f10; have NX10 := Lib.hid nx10; clear f10 nx10 hby))
            go_cut [20] from 20 to 104 (fun v wx => v = .int .i64 (N : Nat) ∧ wx = w10)
            case first =>
              by_cases hlt : (pn : Int) < (o.data.length : Int)
              · have hlt' : pn < o.data.length := by omega
                go_wp2
                go_meet
                case rel => exact ⟨by rw [HNM.out, Nat.min_eq_left (by omega)], rfl⟩
              · have hlt' : ¬ pn < o.data.length := by omega
                go_wp2
                go_meet
                case rel => exact ⟨by rw [HNM.out, Nat.min_eq_right (by omega)], rfl⟩
            case rest =>
            obtain ⟨rfl, rfl⟩ := hcut
            have hNd : N ≤ o.data.length := HN.out
            have hNd' : (N : Int) ≤ (o.data.length : Int) := by omega
            go_upto_region 23 with (first
    | (go_at_call 45; refine (KRD.out _ _ _ NX10.out).mono ?_; rintro e w11 ⟨e1, e2, e3, e4, e5, rfl, hrow, f11⟩; have H11 := Lib.hid (And.intro hrow f11); clear hrow f11))
            have nx11 := NX10.out.on H11.out.2
            have hw := HW.out _ _ _ _ nx11
            have hq2 := hw.2.2.2.2.2.2.1
            have hqo := hw.2.2.2.2.2.2.2.2.1
            have hfw : Frm (fun _ => False) w w11 := hw.1
            have hi2 := hw.2.2.2.1
            have KSF3 : Hid (∀ W, Frm (fun _ => False) w11 W → Calls Tryz.prog 31 #[.pointer (some ⟨b3, 0, none⟩)] W fun e w' => ∃ A c, e = .returned (.agg #[.slice A s2.length c]) ∧ ImgRd w' (.agg #[.slice A s2.length c]) s2 ∧ Frm (fun _ => False) w11 w') := fun W hW => by
              have := (nx11.on hW).safeC
              rw [HAP.out.2] at this
              exact this.mono (by rintro e w' ⟨A, c, e1, e2, e3⟩; exact ⟨A, c, e1, e2.rd, hW.trans e3 (fun _ _ h => h)⟩)
            have KI : Hid (∀ W v1 v2 l, ImgRd W v1 l → ImgRd W v2 l → ImgOk l → Calls Tryz.prog 28 #[v1, v2] W fun e w' => e = .returned (.bool true) ∧ Frm (fun _ => False) W w') := fun W v1 v2 l h1 h2 ok => images_same W v1 v2 l h1 h2 ok
            have hok2 : ImgOk s2 := by
              have := nx11.crashOk [] 0
              rw [HAP.out.2] at this
              exact this
            obtain ⟨sO, hsO⟩ : ∃ sO, sO = strOfNums q.data := ⟨_, rfl⟩
            obtain ⟨sX, hsX⟩ : ∃ sX, sX = strOfNums x := ⟨_, rfl⟩
            have z1 : sO.size = q.data.length := by rw [hsO, strOfNums_size]
            have z2 : sX.size = N := by rw [hsX, strOfNums_size, HXN.out, List.length_take]; have := HN.out; omega
            have z3 : (q.data.length : Int) + ((N : Nat) : Int) ≤ 9223372036854775807 := by have := HQL.out; omega
            have z4 : ¬ 9223372036854775807 < q.data.length + N := by have := HQL.out; omega
            have z5 : (0 : Int) ≤ ((N : Nat) : Int) := by omega
            have z6 : ((N : Nat) : Int) ≤ (c1 : Int) := by have := HO.out.2.2.1; omega
            have zz : Hid (∀ W, Frm (fun _ => False) w11 W → W.cell? ⟨w5.heap.size, 0, none⟩ = some (.slice p5 s2.length c5) ∧ W.cell? ⟨w.heap.size + 1, 3, none⟩ = some (.slice A1 o.data.length c1) ∧ (convert 22 9 (.slice e1 L e2)).run Tryz.prog W = .ok (.string (sO ++ sX)) W ∧ (convert 22 9 (.slice a1 q.data.length a2)).run Tryz.prog W = .ok (.string sO) W ∧ (convert 22 9 (.slice A1 N c1)).run Tryz.prog W = .ok (.string sX) W) := fun W hW => by
              refine ⟨cell_of ((hW.block _ (Da.blk_lt hq2) id).trans hq2) rfl, cell_of ((hW.block _ (Da.blk_lt hqo) id).trans hqo) rfl, ?_, ?_, ?_⟩
              · have h1 := own_frm H11.out.1 hW
                have h9 := HLL.out
                rw [h9] at h1 ⊢
                have h2 : (strOfNums (q.data ++ x)) = sO ++ sX := by rw [hsO, hsX, str_append]
                rw [← h2]
                exact Go.Proofs.YtglhedahannjiaaGreatDoorW.PrintWords.string_of_reads Tryz.underlying22 Tryz.underlying5 Tryz.underlying9 (Go.Proofs.YtglhedahannjiaaGreatDoorW.PrintWords.own_reads' h1)
              · have h1 := BytesAt.string ((HBY.out.frm H11.out.2).frm hW) (by have := HQL.out; omega) 0
                rw [hsO]; exact h1
              · have h1 : ReadsInt W .u8 A1 o.data.length o.data := HO.out.2.2.2.below ((hfw.trans hW (fun _ _ h => h)).below (fun _ h => h.elim) (Nat.le_refl _))
                have h2 := Go.Proofs.YtglhedahannjiaaGreatDoorW.PrintWords.ReadsInt.take_ h1 N (by omega)
                rw [hsX, HXN.out]
                exact Go.Proofs.YtglhedahannjiaaGreatDoorW.PrintWords.string_of_reads Tryz.underlying22 Tryz.underlying5 Tryz.underlying9 h2
            have S0 := zz.out w11 (Frm.refl _ _)
            have D0 := zz.out w11.drew (Frm.refl _ _).drew
            have HI2 := Lib.hid hi2
            have HOK2 := Lib.hid hok2
            have HFW := Lib.hid hfw
            have hc1 : o.data.length ≤ c1 := HO.out.2.2.1
            clear nx11 hw hq2 hqo hfw hi2 hok2 hsO hsX KRD KSM KLK
            go_region_held3 (fun w' => w'.cell? ⟨w5.heap.size, 0, none⟩ = some (.slice p5 s2.length c5) ∧ w'.cell? ⟨w.heap.size + 1, 3, none⟩ = some (.slice A1 o.data.length c1) ∧ (convert 22 9 (.slice e1 L e2)).run Tryz.prog w' = .ok (.string (sO ++ sX)) w' ∧ (convert 22 9 (.slice a1 q.data.length a2)).run Tryz.prog w' = .ok (.string sO) w' ∧ (convert 22 9 (.slice A1 N c1)).run Tryz.prog w' = .ok (.string sX) w')
              (first | exact S0 | exact D0 | exact zz.out _ HX3.out.1 | exact zz.out _ HX4.out | go_keep)
              (first
                | (go_at_call 31; (with_reducible refine (KSF3.out _ (by first | exact Frm.refl _ _ | exact (Frm.refl _ _).drew)).mono ?_); rintro e u3 ⟨A3, c3, rfl, hr3, f3⟩; have HX3 := Lib.hid (And.intro f3 hr3); clear hr3 f3)
                | (go_at_call 28; (with_reducible refine (KI.out _ _ _ s2 HX3.out.2 (HI2.out.frm HX3.out.1) HOK2.out).mono ?_); rintro e u4 ⟨rfl, f4⟩; have HX4 : Hid (Frm (fun _ => False) w11 u4) := Lib.hid (HX3.out.1.trans f4 (fun _ _ h => h)); clear f4))
            all_goals
              go_wp2
              go_ret
              exact ⟨rfl, HFW.out.trans HX4.out (fun _ _ h => h)⟩
        · have hk2b : (o.kind == 2) = false := beq_eq_false_iff_ne.2 hk2
          have HK := Lib.hid hk2
          clear hk2
          go_wp2_with (first
            | (go_at_call 43; refine KLK.out.mono ?_; rintro e w10 ⟨hla, f10⟩; obtain ⟨a1, a2, a3, a4, a5, rfl, hby⟩ := hla; obtain ⟨nx10, u1, u2, u3, u4, u5, u6, u7, u8⟩ := HU.out _ f10; have NX10 := Lib.hid nx10; clear f10 nx10)
            | (go_at_call 44; refine (KSM.out (HAL.out (Or.inl HK.out)) _ _ _ NX10.out).mono ?_; rintro e w11 ⟨rfl, f11⟩; have F11 := Lib.hid f11; clear f11))
          go_ret
          exact ⟨rfl, (HW.out _ _ _ _ NX10.out).1.trans F11.out (fun _ _ h => h)⟩
  · rw [Bool.eq_false_iff.2 hko] at KOP
    go_wp2_with (first | (go_at_call 41; refine (KOP.out _).mono ?_; rintro e w4 ⟨rfl, rfl⟩))
    go_ret
    exact ⟨rfl, HL.out.2.1⟩
end Go.Proofs.YtglhedahannjiaaGreatDoor.Dw

/- How an argument that can be read as data lies in memory, kind by kind: out of the reader's answer, the printed words' own facts (Kd) and the datum. -/
namespace Go.Proofs.YtglhedahannjiaaGreatDoor.Read
open Go.RowKit Go.ChangeShapes Go.WideShapes Go.Deep Go.Proofs.YtglhedahannjiaaGreatDoorW.PrintWords
set_option linter.unusedVariables false
set_option linter.unusedSimpArgs false
section
variable {H : Type}

/-- What type t's cells read as: a value by the kind d, its datum by D. -/
def Rdr (P : Program) (t : TypeId) {α : Type} (d : Kd α) (D : α → DataW H → Prop) : Prop :=
  ∀ (enc : TypeId × Value → H) (w : World) (base : Nat) (spare : Nat → Bool) (held : Bool) (fuel : Nat) (cs : List Value) (x : DataW H × List MemPlace),
    DataW.trod enc P w base spare held fuel t cs = some x → ∃ y, d.K w y cs ∧ D y x.1

def DInt (k : IntKind) (n : Int) (d : DataW H) : Prop := d = .lit (.int k n) ∧ (Lit.int k n).wf = true
def DBool (b : Bool) (d : DataW H) : Prop := d = .lit (.bool b)
def DStr (s : ByteArray) (d : DataW H) : Prop := d = .lit (.string s.data.toList) ∧ s.size ≤ maxLen
def DSlice {α : Type} (D : α → DataW H → Prop) (xs : List α) (d : DataW H) : Prop :=
  xs.length ≤ maxLen ∧ ((xs = [] ∧ d = .nil) ∨ ∃ es sp, d = .slice es sp ∧ es.length = xs.length ∧ ∀ (i : Nat) x e, xs[i]? = some x → es[i]? = some e → D x e)
def DAgg {α : Type} (DL : α → List (DataW H) → Prop) (x : α) (d : DataW H) : Prop := ∃ ds, d = .agg ds ∧ DL x ds
def D1 {α : Type} (D : α → DataW H → Prop) (x : α) (ds : List (DataW H)) : Prop := ∃ d, ds = [d] ∧ D x d
def DC {α β : Type} (D : α → DataW H → Prop) (DL : β → List (DataW H) → Prop) (x : α × β) (ds : List (DataW H)) : Prop := ∃ d r, ds = d :: r ∧ D x.1 d ∧ DL x.2 r

theorem rdr_int {P : Program} {t : TypeId} {k : IntKind} (ht : P.underlying t = some (.int k)) : Rdr (H := H) P t (Kd.int k) (DInt k) := by
  intro enc w base spare held fuel cs x h
  obtain ⟨n, rfl, rfl, hw⟩ := DataW.trod_int ht h
  exact ⟨n, rfl, rfl, hw⟩
theorem rdr_bool {P : Program} {t : TypeId} (ht : P.underlying t = some .bool) : Rdr (H := H) P t Kd.bool DBool := by
  intro enc w base spare held fuel cs x h
  obtain ⟨n, rfl, rfl⟩ := DataW.trod_bool ht h
  exact ⟨n, rfl, rfl⟩
theorem rdr_str {P : Program} {t : TypeId} (ht : P.underlying t = some .string) : Rdr (H := H) P t Kd.string DStr := by
  intro enc w base spare held fuel cs x h
  obtain ⟨s, rfl, rfl, hs⟩ := DataW.trod_string ht h
  exact ⟨s, rfl, rfl, hs⟩
theorem maxLen_eq : maxLen = 9223372036854775807 := by decide
theorem rdr_slice {P : Program} {t e : TypeId} {α : Type} {d : Kd α} {D : α → DataW H → Prop} (ht : P.underlying t = some (.slice e)) (hc : P.cellsOf e = d.sz) (he : Rdr P e d D) :
    Rdr P t (Kd.slice e d) (DSlice D) := by
  intro enc w base spare held fuel cs x h
  rcases open_slice ht h with ⟨rfl, rfl⟩ | ⟨a, len, cap, m, n, Ds, Pl, rfl, hb, hl, hm, hmm, rfl, hx⟩
  · exact ⟨[], ⟨none, 0, rfl, Nat.le_refl _, rfl, by simp, fun h => absurd h (by simp)⟩, Nat.zero_le _, .inl ⟨rfl, rfl⟩⟩
  · have hlm : len ≤ m := by rw [hmm]; split <;> omega
    have each : ∀ i, i < len → ∃ y c, c.length = d.sz ∧ d.K w y c ∧ D y (Ds i) ∧ ∀ j u, c[j]? = some u → w.cell? (a.add (i * d.sz + j)) = some u := by
      intro i hi
      obtain ⟨cs', h1, h2⟩ := hx i (by omega)
      rw [hc] at h1
      obtain ⟨_, hlen, hcell⟩ := World.cells?_some h1
      obtain ⟨y, hk, hd⟩ := he enc w base spare held n cs' _ h2
      refine ⟨y, cs', hlen, hk, hd, fun j u hj => ?_⟩
      have hj' : j < d.sz := by
        have := (List.getElem?_eq_some_iff.1 hj).1
        omega
      have := hcell j hj'
      rw [Go.Deep.add_add] at this
      rw [this, hj]
    obtain ⟨ys, hys, hy⟩ : ∃ ys : List α, ys.length = len ∧ ∀ i, i < len → ∃ y c, ys[i]? = some y ∧ c.length = d.sz ∧ d.K w y c ∧ D y (Ds i) ∧ ∀ j u, c[j]? = some u → w.cell? (a.add (i * d.sz + j)) = some u := by
      clear h hx hl hlm hmm hm hb
      induction len with
      | zero => exact ⟨[], rfl, fun i hi => absurd hi (Nat.not_lt_zero _)⟩
      | succ l ih =>
        obtain ⟨ys, h1, h2⟩ := ih (fun i hi => each i (by omega))
        obtain ⟨y, c, h3, h4, h5, h6⟩ := each l (by omega)
        refine ⟨ys ++ [y], by simp [h1], fun i hi => ?_⟩
        rcases Nat.lt_or_ge i l with hil | hil
        · obtain ⟨y', c', g1, g2⟩ := h2 i hil
          exact ⟨y', c', by rw [List.getElem?_append_left (by omega)]; exact g1, g2⟩
        · obtain rfl : i = l := by omega
          exact ⟨y, c, by rw [List.getElem?_append_right (by omega)]; simp [h1], h3, h4, h5, h6⟩
    have hlen9 : len ≤ 9223372036854775807 := by
      have := maxLen_eq
      omega
    refine ⟨ys, ⟨some a, cap, by rw [hys], by omega, rfl, by omega, fun _ => ⟨a, rfl, fun j p hp => ?_⟩⟩, by omega, .inr ⟨_, _, rfl, by simp [hys], fun i y e hi he' => ?_⟩⟩
    · have hj : j < len := by
        have := (List.getElem?_eq_some_iff.1 hp).1
        omega
      obtain ⟨y, c, h1, h2, h3, _, h4⟩ := hy j hj
      rw [h1] at hp
      obtain rfl := Option.some.inj hp
      exact ⟨c, h2, h3, h4⟩
    · have hj : i < len := by
        have := (List.getElem?_eq_some_iff.1 hi).1
        omega
      obtain ⟨y', c, h1, h2, h3, h5, h4⟩ := hy i hj
      rw [h1] at hi
      obtain rfl := Option.some.inj hi
      rw [List.getElem?_map, List.getElem?_range hj] at he'
      obtain rfl := Option.some.inj he'
      exact h5

/-- The fields of a struct, from cell off on. -/
def Flds (P : Program) (fs : List Field) (off : Nat) {α : Type} (d : Kd α) (DL : α → List (DataW H) → Prop) : Prop :=
  ∀ (enc : TypeId × Value → H) (w : World) (base : Nat) (spare : Nat → Bool) (held : Bool) (n : Nat) (cs : List Value) (xs : List (DataW H × List MemPlace)),
    (∀ (i : Nat) (f : Field), fs[i]? = some f → DataW.trod enc P w base spare held n f.type ((cs.drop f.offset).take (P.cellsOf f.type)) = xs[i]?) → xs.length = fs.length → cs.length = off + d.sz →
    ∃ y, d.K w y (cs.drop off) ∧ DL y (xs.map (·.1))
theorem flds_one {P : Program} {f : Field} {off : Nat} {α : Type} {d : Kd α} {D : α → DataW H → Prop} (ho : f.offset = off) (hc : P.cellsOf f.type = d.sz) (h : Rdr P f.type d D) : Flds P [f] off d (D1 D) := by
  intro enc w base spare held n cs xs hx hl hcs
  match xs, hl with
  | [x], _ =>
    have h0 := hx 0 f rfl
    rw [ho, hc, List.take_of_length_le (by simp; omega)] at h0
    obtain ⟨y, hk, hd⟩ := h enc w base spare held n _ _ h0
    exact ⟨y, hk, _, rfl, hd⟩
theorem flds_cons {P : Program} {f : Field} {fs : List Field} {off off' : Nat} {α β : Type} {a : Kd α} {b : Kd β} {D : α → DataW H → Prop} {DL : β → List (DataW H) → Prop}
    (ho : f.offset = off) (hc : P.cellsOf f.type = a.sz) (h : Rdr P f.type a D) (ho' : off' = off + a.sz) (hr : Flds P fs off' b DL) : Flds P (f :: fs) off (Kd.pair a b) (DC D DL) := by
  intro enc w base spare held n cs xs hx hl hcs
  have hsz : (Kd.pair a b).sz = a.sz + b.sz := rfl
  match xs, hl with
  | x :: xs, hl =>
    have h0 := hx 0 f rfl
    rw [ho, hc] at h0
    obtain ⟨y, hk, hd⟩ := h enc w base spare held n _ _ h0
    obtain ⟨z, hk', hd'⟩ := hr enc w base spare held n cs xs (fun i g hg => hx (i + 1) g hg) (by simpa using hl) (by omega)
    refine ⟨(y, z), ⟨_, _, ?_, hk, hk'⟩, _, _, rfl, hd, hd'⟩
    rw [ho', ← List.drop_drop, List.take_append_drop]
theorem rdr_struct {P : Program} {t : TypeId} {fs : Array Field} {α : Type} {d : Kd α} {DL : α → List (DataW H) → Prop} (ht : P.underlying t = some (.struct fs)) (hc : P.cellsOf t = d.sz) (h : Flds P fs.toList 0 d DL) :
    Rdr P t d (DAgg DL) := by
  intro enc w base spare held fuel cs x hx
  obtain ⟨xs, n, _, rfl, hl, hlen, hg⟩ := DataW.trod_struct ht hx
  obtain ⟨y, hk, hd⟩ := h enc w base spare held n cs xs (fun i f hf => hg i f (by simpa using hf)) (by simpa using hlen) (by omega)
  exact ⟨y, by simpa using hk, _, rfl, hd⟩
theorem rdr_iso {P : Program} {t : TypeId} {α β : Type} {d : Kd α} {D : α → DataW H → Prop} (f : β → α) (g : α → β) (hfg : ∀ x, f (g x) = x) (h : Rdr P t d D) : Rdr P t (Kd.iso d f) (fun x => D (f x)) := by
  intro enc w base spare held fuel cs x hx
  obtain ⟨y, hk, hd⟩ := h enc w base spare held fuel cs x hx
  exact ⟨g y, by show d.K w (f (g y)) cs; rw [hfg]; exact hk, by show D (f (g y)) x.1; rw [hfg]; exact hd⟩

/-- A row's argument that is a slice. -/
theorem open_sl {P : Program} {t e : TypeId} {α : Type} {d : Kd α} {D : List α → DataW H → Prop} {enc : TypeId × Value → H} {w : World} {base : Nat} {spare : Nat → Bool} {held : Bool} {v : Value} {x : DataW H} {ps : List MemPlace} {r : Reach} {b0 : Nat}
    (hr : Rdr P t (Kd.slice e d) D) (ht : P.underlying t = some (.slice e)) (hv : Value.okWide P w r b0 t v) (h : DataW.Trod enc P w base spare held t v x ps) :
    ∃ A c l, v = .slice A (List.length l) c ∧ l.length ≤ c ∧ d.C w A l.length l ∧ D l x := by
  obtain ⟨fuel, hf⟩ := h
  obtain ⟨a, len, cap, rfl⟩ := okWide_slice ht hv
  obtain ⟨l, ⟨A, c, hcs, hlc, hC⟩, hd⟩ := hr _ _ _ _ _ _ _ _ hf
  simp [Value.cells] at hcs
  obtain ⟨rfl, rfl, rfl⟩ := hcs
  exact ⟨_, _, l, rfl, hlc, hC, hd⟩
/-- .. a struct by value. -/
theorem open_st {P : Program} {t : TypeId} {fs : Array Field} {α : Type} {d : Kd α} {D : α → DataW H → Prop} {enc : TypeId × Value → H} {w : World} {base : Nat} {spare : Nat → Bool} {held : Bool} {v : Value} {x : DataW H} {ps : List MemPlace} {r : Reach} {b0 : Nat}
    (hr : Rdr P t d D) (ht : P.underlying t = some (.struct fs)) (hv : Value.okWide P w r b0 t v) (h : DataW.Trod enc P w base spare held t v x ps) :
    ∃ cs y, v = .agg cs ∧ d.K w y cs.toList ∧ D y x := by
  obtain ⟨fuel, hf⟩ := h
  obtain ⟨cs, rfl, hsz⟩ := okWide_struct ht hv
  obtain ⟨y, hk, hd⟩ := hr _ _ _ _ _ _ _ _ hf
  exact ⟨cs, y, rfl, hk, hd⟩
end
end Go.Proofs.YtglhedahannjiaaGreatDoor.Read

/- The arguments of layer 7's laws, read as data: an image, a script, fates; what their weights allow. -/
namespace Go.Proofs.YtglhedahannjiaaGreatDoor.Dw
open Go.RowKit Go.ChangeShapes Go.WideShapes Go.Proofs.YtglhedahannjiaaGreatDoor.Read Go.Proofs.YtglhedahannjiaaGreatDoor.Mp Go.Proofs.YtglhedahannjiaaGreatDoor.Dm Go.Proofs.YtglhedahannjiaaGreatDoor.Da
open Go.Proofs.YtglhedahannjiaaGreatDoorW.PrintWords (Kd ReadsInt)
set_option linter.unusedVariables false
set_option linter.unusedSimpArgs false
set_option linter.unusedSectionVars false
section
variable {H : Type}
/-- A datum of a type keeps to its weights. -/
def Fits (t : TypeId) (d : DataW H) : Prop := ∀ n, n ∈ d.weights Tryz.prog t → n ≤ reachBytes
theorem fits_arg {ts : List TypeId} {ds : List (DataW H)} (h : (DataW.weightsEach Tryz.prog ts ds).all (· ≤ reachBytes) = true) {j : Nat} {t : TypeId} {d : DataW H} (ht : ts[j]? = some t) (hd : ds[j]? = some d) : Fits t d := fun n hn => by
  have := List.all_eq_true.1 h n (DataW.weights_mem_each ht hd n hn)
  simpa using this
theorem weights_all {e : TypeId} : ∀ {l : List (DataW H)} {d : DataW H}, d ∈ l → ∀ n, n ∈ d.weights Tryz.prog e → n ∈ DataW.weightsAll Tryz.prog e l
  | x :: l, d, hd, n, hn => by
    simp only [DataW.weightsAll, List.mem_append]
    rcases List.mem_cons.1 hd with rfl | h
    · exact .inl hn
    · exact .inr (weights_all h n hn)
theorem fits_slice {t e : TypeId} {es sp : List (DataW H)} (h : Fits t (.slice es sp)) (hu : Tryz.prog.underlying t = some (.slice e)) : es.length * Tryz.prog.bytesOf e ≤ reachBytes ∧ ∀ d, d ∈ es → Fits e d := by
  have hw : DataW.weights Tryz.prog t (.slice es sp) = (es.length + sp.length) * Tryz.prog.bytesOf e :: (DataW.weightsAll Tryz.prog e es ++ DataW.weightsAll Tryz.prog e sp) := by simp [DataW.weights, hu]
  constructor
  · have := h _ (by rw [hw]; exact List.mem_cons_self)
    exact Nat.le_trans (Nat.mul_le_mul_right _ (Nat.le_add_right _ _)) this
  · intro d hd n hn
    exact h n (by rw [hw]; exact List.mem_cons_of_mem _ (List.mem_append_left _ (weights_all hd n hn)))
theorem fits_struct {t : TypeId} {fs : Array Field} {ds : List (DataW H)} (h : Fits t (.agg ds)) (hu : Tryz.prog.underlying t = some (.struct fs)) : ∀ (j : Nat) u d, (fs.toList.map (·.type))[j]? = some u → ds[j]? = some d → Fits u d := by
  intro j u d hj hd n hn
  refine h n ?_
  have hw : DataW.weights Tryz.prog t (.agg ds) = DataW.weightsEach Tryz.prog (fs.toList.map (·.type)) ds := by simp [DataW.weights, hu]
  rw [hw]
  exact DataW.weights_mem_each hj hd n hn
/-- Whole numbers in a slice. -/
theorem ints_wf {k : IntKind} {l : List Int} {d : DataW H} (h : DSlice (DInt k) l d) : ∀ x, x ∈ l → (Lit.int k x).wf = true := by
  intro x hx
  obtain ⟨j, hj⟩ := List.getElem?_of_mem hx
  rcases h.2 with ⟨rfl, _⟩ | ⟨es, sp, rfl, hes, hD⟩
  · simp at hj
  · have hjl := (List.getElem?_eq_some_iff.1 hj).1
    exact (hD j x _ hj (List.getElem?_eq_getElem (by omega))).2
theorem u8_wf {l : List Int} {d : DataW H} (h : DSlice (DInt .u8) l d) : ∀ x, x ∈ l → 0 ≤ x ∧ x < 256 := fun x hx => by
  have := ints_wf h x hx
  simp [Lit.wf, IntKind.min, IntKind.max, IntKind.bits, IntKind.signed] at this
  exact ⟨by omega, by omega⟩
theorem i64_wf {x : Int} (h : (Lit.int .i64 x).wf = true) : -9223372036854775808 ≤ x ∧ x ≤ 9223372036854775807 := by
  simp [Lit.wf, IntKind.min, IntKind.max, IntKind.bits, IntKind.signed] at h
  exact ⟨by omega, by omega⟩
set_option maxRecDepth 100000 in
theorem slice_len {α : Type} {t e : TypeId} {D : α → DataW H → Prop} {l : List α} {d : DataW H} (h : DSlice D l d) (hf : Fits t d) (hu : Tryz.prog.underlying t = some (.slice e)) : l.length * Tryz.prog.bytesOf e ≤ reachBytes := by
  rcases h.2 with ⟨rfl, _⟩ | ⟨es, sp, rfl, hes, _⟩
  · simp
  · rw [← hes]; exact (fits_slice hf hu).1
set_option maxRecDepth 100000 in
theorem slice_elem {α : Type} {t e : TypeId} {D : α → DataW H → Prop} {l : List α} {d : DataW H} (h : DSlice D l d) (hf : Fits t d) (hu : Tryz.prog.underlying t = some (.slice e)) {x : α} (hx : x ∈ l) : ∃ dx, D x dx ∧ Fits e dx := by
  obtain ⟨j, hj⟩ := List.getElem?_of_mem hx
  rcases h.2 with ⟨rfl, _⟩ | ⟨es, sp, rfl, hes, hD⟩
  · simp at hj
  · have hjl := (List.getElem?_eq_some_iff.1 hj).1
    have he : es[j]? = some es[j] := List.getElem?_eq_getElem (by omega)
    exact ⟨_, hD j x _ hj he, (fits_slice hf hu).2 _ (List.getElem_mem _)⟩
/-! ### the readers -/
abbrev DFile (p : Plain) (d : DataW H) : Prop := DAgg (DC DStr (DC (DSlice (DInt .u8)) (D1 (DSlice (DInt .i64))))) (p.name, p.data, p.bad) d
abbrev DImg (l : List Plain) (d : DataW H) : Prop := DAgg (D1 (DSlice DFile)) l d
abbrev DFail (p : Int × Int) (d : DataW H) : Prop := DAgg (DC (DInt .i64) (D1 (DInt .i64))) p d
abbrev DFates (p : List Int × Int) (d : DataW H) : Prop := DAgg (DC (DSlice (DInt .i64)) (D1 (DInt .i64))) p d
abbrev DOp (o : OpS) (d : DataW H) : Prop := DAgg (DC (DInt .i64) (DC DStr (DC DStr (DC (DSlice (DInt .u8)) (DC (DInt .i64) (DC (DSlice DFail) (DC (DInt .i64) (D1 DFates)))))))) (o.kind, o.name, o.to_, o.data, o.n, o.fails, o.cut, o.fs, o.fn) d
theorem rdr_i64 : Rdr (H := H) Tryz.prog 3 (Kd.int .i64) (DInt .i64) := rdr_int Tryz.underlying3
theorem rdr_u8s : Rdr (H := H) Tryz.prog 22 (Kd.slice 5 (Kd.int .u8)) (DSlice (DInt .u8)) := rdr_slice Tryz.underlying22 (by kernel_rfl) (rdr_int Tryz.underlying5)
theorem rdr_i64s : Rdr (H := H) Tryz.prog 23 (Kd.slice 3 (Kd.int .i64)) (DSlice (DInt .i64)) := rdr_slice Tryz.underlying23 (by kernel_rfl) rdr_i64
theorem rdr_s : Rdr (H := H) Tryz.prog 9 Kd.string DStr := rdr_str Tryz.underlying9
theorem rdr_file : Rdr (H := H) Tryz.prog 41 fileK DFile :=
  rdr_iso (fun p : Plain => (p.name, p.data, p.bad)) (fun x => ⟨x.1, x.2.1, x.2.2⟩) (fun _ => rfl)
    (rdr_struct Tryz.underlying41 (by kernel_rfl) (flds_cons rfl (by kernel_rfl) rdr_s rfl (flds_cons rfl (by kernel_rfl) rdr_u8s rfl (flds_one rfl (by kernel_rfl) rdr_i64s))))
theorem rdr_img : Rdr (H := H) Tryz.prog 36 (Kd.slice 41 fileK) DImg :=
  rdr_struct Tryz.underlying36 (by kernel_rfl) (flds_one rfl (by kernel_rfl) (rdr_slice Tryz.underlying34 (by kernel_rfl) rdr_file))
theorem rdr_fail : Rdr (H := H) Tryz.prog 75 failK DFail := rdr_struct Tryz.underlying75 (by kernel_rfl) (flds_cons rfl (by kernel_rfl) rdr_i64 rfl (flds_one rfl (by kernel_rfl) rdr_i64))
theorem rdr_fates : Rdr (H := H) Tryz.prog 39 fatesK DFates := rdr_struct Tryz.underlying39 (by kernel_rfl) (flds_cons rfl (by kernel_rfl) rdr_i64s rfl (flds_one rfl (by kernel_rfl) rdr_i64))
theorem rdr_op : Rdr (H := H) Tryz.prog 55 opK DOp :=
  rdr_iso (fun o : OpS => (o.kind, o.name, o.to_, o.data, o.n, o.fails, o.cut, o.fs, o.fn)) (fun x => ⟨x.1, x.2.1, x.2.2.1, x.2.2.2.1, x.2.2.2.2.1, x.2.2.2.2.2.1, x.2.2.2.2.2.2.1, x.2.2.2.2.2.2.2.1, x.2.2.2.2.2.2.2.2⟩) (fun _ => rfl)
    (rdr_struct Tryz.underlying55 (by kernel_rfl) (flds_cons rfl (by kernel_rfl) rdr_i64 rfl (flds_cons rfl (by kernel_rfl) rdr_s rfl (flds_cons rfl (by kernel_rfl) rdr_s rfl (flds_cons rfl (by kernel_rfl) rdr_u8s rfl (flds_cons rfl (by kernel_rfl) rdr_i64 rfl
      (flds_cons rfl (by kernel_rfl) (rdr_slice Tryz.underlying53 (by kernel_rfl) rdr_fail) rfl (flds_cons rfl (by kernel_rfl) rdr_i64 rfl (flds_one rfl (by kernel_rfl) rdr_fates)))))))))
theorem bytes_u8 : Tryz.prog.bytesOf 5 = 1 := by kernel_rfl
theorem bytes_int : Tryz.prog.bytesOf 3 = 8 := by kernel_rfl
theorem bytes_fail : Tryz.prog.bytesOf 75 = 16 := by kernel_rfl
theorem bytes_file : Tryz.prog.bytesOf 41 = 64 := by kernel_rfl
theorem bytes_op : Tryz.prog.bytesOf 55 = 136 := by kernel_rfl
theorem reach_eq : reachBytes = 140737488351232 := by decide
set_option maxRecDepth 100000 in
/-- An image's file, as its datum has it. -/
theorem file_ok {p : Plain} {d : DataW H} (h : DFile p d) (hf : Fits 41 d) : (∀ x, x ∈ p.data → 0 ≤ x ∧ x < 256) ∧ p.data.length ≤ 140737488355328 ∧ p.name.size ≤ 9223372036854775807 := by
  obtain ⟨ds, rfl, d0, r0, rfl, h0, d1, r1, rfl, h1, d2, rfl, h2⟩ := h
  have f1 : Fits 22 d1 := fits_struct hf Tryz.underlying41 1 22 d1 rfl rfl
  have l1 := slice_len h1 f1 Tryz.underlying22
  rw [bytes_u8, reach_eq] at l1
  exact ⟨u8_wf h1, by simp only [] at l1; omega, by have := h0.2; rw [maxLen_eq] at this; exact this⟩
set_option maxRecDepth 100000 in
theorem fates_ok {fs : List Int} {fn : Int} {d : DataW H} (h : DFates (fs, fn) d) (hf : Fits 39 d) : fs.length ≤ 4611686018427387904 ∧ -9223372036854775808 ≤ fn ∧ fn ≤ 9223372036854775807 := by
  obtain ⟨ds, rfl, d0, r0, rfl, h0, d1, rfl, h1⟩ := h
  have f0 : Fits 23 d0 := fits_struct hf Tryz.underlying39 0 23 d0 rfl rfl
  have l0 := slice_len h0 f0 Tryz.underlying23
  rw [bytes_int, reach_eq] at l0
  exact ⟨by simp only [] at l0; omega, i64_wf h1.2⟩
set_option maxRecDepth 100000 in
theorem op_ok {o : OpS} {d : DataW H} (h : DOp o d) (hf : Fits 55 d) : OpOk o ∧ o.data.length ≤ 140737488355328 := by
  obtain ⟨ds, rfl, d0, r0, rfl, h0, d1, r1, rfl, h1, d2, r2, rfl, h2, d3, r3, rfl, h3, d4, r4, rfl, h4, d5, r5, rfl, h5, d6, r6, rfl, h6, d7, rfl, h7⟩ := h
  have f3 : Fits 22 d3 := fits_struct hf Tryz.underlying55 3 22 d3 rfl rfl
  have f5 : Fits 53 d5 := fits_struct hf Tryz.underlying55 5 53 d5 rfl rfl
  have f7 : Fits 39 d7 := fits_struct hf Tryz.underlying55 7 39 d7 rfl rfl
  have l3 := slice_len h3 f3 Tryz.underlying22
  have l5 := slice_len h5 f5 Tryz.underlying53
  rw [bytes_u8, reach_eq] at l3
  rw [bytes_fail, reach_eq] at l5
  have e7 := fates_ok h7 f7
  have mx := maxLen_eq
  exact ⟨⟨by have := h1.2; rw [mx] at this; exact this, by have := h2.2; rw [mx] at this; exact this, u8_wf h3, i64_wf h4.2, by simp only [] at l5; omega, e7.1⟩, by simp only [] at l3; omega⟩
end
section
variable {H : Type} {enc : TypeId × Value → H} {w : World} {base : Nat} {spare : Nat → Bool} {held : Bool} {v : Value} {x : DataW H} {ps : List MemPlace} {r : Reach} {b0 : Nat}
set_option maxRecDepth 100000 in
theorem img_arg (hv : Value.okWide Tryz.prog w r b0 36 v) (h : DataW.Trod enc Tryz.prog w base spare held 36 v x ps) (hf : Fits 36 x) :
    ∃ l, ImgRd w v l ∧ l.length ≤ 4398046511104 ∧ (∀ p, p ∈ l → (∀ x, x ∈ p.data → 0 ≤ x ∧ x < 256) ∧ p.data.length ≤ 140737488355328 ∧ p.name.size ≤ 9223372036854775807) := by
  obtain ⟨cs, l, rfl, ⟨A, c, e, hlc, hC⟩, ds, rfl, d, rfl, hd⟩ := open_st rdr_img Tryz.underlying36 hv h
  have e2 : cs = #[.slice A l.length c] := Array.toList_inj.1 e
  subst e2
  have fd : Fits 34 d := fits_struct hf Tryz.underlying36 0 34 d rfl rfl
  have l1 := slice_len hd fd Tryz.underlying34
  rw [bytes_file, reach_eq] at l1
  refine ⟨l, ⟨A, c, rfl, hlc, hC⟩, by omega, fun p hp => ?_⟩
  obtain ⟨dx, h1, h2⟩ := slice_elem hd fd Tryz.underlying34 hp
  exact file_ok h1 h2
set_option maxRecDepth 100000 in
theorem ops_arg (hv : Value.okWide Tryz.prog w r b0 43 v) (h : DataW.Trod enc Tryz.prog w base spare held 43 v x ps) (hf : Fits 43 x) :
    ∃ A c os, v = .slice A (List.length os) c ∧ os.length ≤ c ∧ opK.C w A os.length os ∧ (∀ o, o ∈ os → OpOk o ∧ o.data.length ≤ 140737488355328) := by
  obtain ⟨A, c, os, rfl, hlc, hC, hd⟩ := open_sl (rdr_slice Tryz.underlying43 (by kernel_rfl) rdr_op) Tryz.underlying43 hv h
  refine ⟨A, c, os, rfl, hlc, hC, fun o ho => ?_⟩
  obtain ⟨dx, h1, h2⟩ := slice_elem hd hf Tryz.underlying43 ho
  exact op_ok h1 h2
set_option maxRecDepth 100000 in
theorem op_arg (hv : Value.okWide Tryz.prog w r b0 55 v) (h : DataW.Trod enc Tryz.prog w base spare held 55 v x ps) (hf : Fits 55 x) :
    ∃ o, OpIn w o v ∧ OpOk o ∧ o.data.length ≤ 140737488355328 := by
  obtain ⟨cs, o, rfl, hK, hd⟩ := open_st rdr_op Tryz.underlying55 hv h
  obtain ⟨v, e, hin, _⟩ := opK_in hK
  have e2 : v = cs := Array.toList_inj.1 e
  subst e2
  exact ⟨o, hin, op_ok hd hf⟩
set_option maxRecDepth 100000 in
theorem fates_arg (hv : Value.okWide Tryz.prog w r b0 39 v) (h : DataW.Trod enc Tryz.prog w base spare held 39 v x ps) (hf : Fits 39 x) :
    ∃ A c fs fn, v = .agg #[.slice A (List.length fs) c, .int .i64 fn] ∧ fs.length ≤ c ∧ (∀ j (hj : j < fs.length), ∃ ad, A = some ad ∧ w.cell? (ad.add j) = some (.int .i64 fs[j])) ∧ fs.length ≤ 4611686018427387904 ∧ -9223372036854775808 ≤ fn ∧ fn ≤ 9223372036854775807 := by
  obtain ⟨cs, ⟨fs, fn⟩, rfl, ⟨c0, c1, e, ⟨A, c, e0, hlc, hC⟩, h1⟩, hd⟩ := open_st rdr_fates Tryz.underlying39 hv h
  have h1 : c1 = [.int .i64 fn] := h1
  subst h1
  simp only [] at e0
  subst e0
  have e2 : cs = #[.slice A fs.length c, .int .i64 fn] := Array.toList_inj.1 e
  subst e2
  exact ⟨A, c, fs, fn, rfl, hlc, C_int hC, fates_ok hd hf⟩
end
end Go.Proofs.YtglhedahannjiaaGreatDoor.Dw
