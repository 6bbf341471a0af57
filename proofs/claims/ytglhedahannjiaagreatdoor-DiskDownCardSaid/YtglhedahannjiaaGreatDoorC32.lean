/- A part of the proof of diskDown_holds: LawDown. No condition. -/
import Derived.Test.YtglhedahannjiaaGreatDoorC31

/- Walks: DiskDown. -/
namespace Go.Proofs.YtglhedahannjiaaGreatDoor.Dw
open Go.RowKit Go.ChangeMaps Go.Proofs.YtglhedahannjiaaGreatDoor.Mp Go.Proofs.YtglhedahannjiaaGreatDoor.Dm Go.Proofs.YtglhedahannjiaaGreatDoor.Da
open Go.Proofs.YtglhedahannjiaaGreatDoorW.PrintWords (Kd ReadsInt)
set_option linter.unusedVariables false
set_option linter.unusedSimpArgs false
set_option linter.unusedSectionVars false
theorem ImgAt.keep2 {w W : World} {base : Nat} {v : Value} {l : List Plain} {F : Nat → Prop} (h : ImgAt w base v l) (hf : Frm F w W) (hF : ∀ k, k < w.heap.size → F k → k < base) : ImgAt W base v l := by
  obtain ⟨A, c, e, h⟩ := h
  refine ⟨A, c, e, ?_⟩
  have h1 := Kd.R_bound h
  exact Kd.R_mono (Kd.R_step h1 (fun k hk hlt => hf.block k hlt (fun hF' => by have := hF k hlt hF'; have := hk.2.1; omega))) (fun _ hk => hk.1)
set_option maxHeartbeats 40000000 in
set_option maxRecDepth 100000 in
theorem law_down {w : World} {eb : Nat → Addr} (h15 : Errs15 w.heap.size w eb) {vi : Value} {l : List Plain} {As : Option Addr} {os : List OpS} {cs : Nat} (ha : ArgsOk w vi l As os cs) (o : OpS) {vo : Value} (ho : OpIn w o vo) (ok : OpOk o) (hod : o.data.length ≤ 140737488355328) {ms : List OpS} {Am : Option Addr} {cm : Nat} (hmC : opK.C w Am ms.length ms) (hmc : ms.length ≤ cm) (hmok : ∀ o, o ∈ ms → OpOk o)
    (fs : List Int) (fn : Int) (Af : Option Addr) (cf : Nat) (hfs : ∀ j (hj : j < fs.length), ∃ ad, Af = some ad ∧ w.cell? (ad.add j) = some (.int .i64 fs[j])) (hfl : fs.length ≤ 4611686018427387904) :
    Calls Tryz.prog 8 #[vi, .slice As os.length cs, vo, .slice Am ms.length cm, .agg #[.slice Af fs.length cf, .int .i64 fn]] w fun e w' => e = .returned (.bool true) ∧ Frm (fun _ => False) w w' := by
  obtain ⟨Ai, ci, rfl, hci, hCi⟩ := id ha.img
  obtain ⟨A1, c1, A2, c2, A3, c3, rfl, ho1, ho2, ho3, ho4⟩ := id ho
  have KL : Hid (∀ W, Frm (fun _ => False) w W → Calls Tryz.prog 10 #[] W fun e w' => e = .returned (.bool true) ∧ Frm (fun _ => False) W w') := fun W hW => lives_calls ((h15.frm hW (fun _ h => h.elim)).up hW.size).errs
  have KP : Hid (∀ W, Frm (fun _ => False) w W → Calls Tryz.prog 38 #[.agg #[.slice Ai l.length ci], .slice As os.length cs] W fun e w' => ∃ b lab n m D, e = .returned (dptr b) ∧ Live W.heap.size w' b lab eb l7 n m D ∧ n ≤ 1052672 ∧ m ≤ 1048576 ∧ Frm (fun _ => False) W w') :=
    fun W hW => ha.played h15 hW
  have HFS := Lib.hid hfs
  have HMS := Lib.hid (And.intro hmC hmok)
  have H15 := Lib.hid h15
  have HO := Lib.hid (And.intro ho (And.intro ok (And.intro ho1 ho2)))
  have KOP := Lib.hid (fun W => operation_calls W o.kind)
  clear ha h15 hfs hmC hmok hCi ho ok ho1 ho2 ho3 ho4
  go_enter Tryz.func8, Tryz.ntmps8
  go_upto_region 1 with (fail)
  obtain ⟨w0, hw0⟩ : ∃ w0, w0 = ((w.alloc (.cells #[.slice Ai l.length ci] 36)).alloc (.cells #[.int .i64 o.kind, .string o.name, .string o.to_, .slice A1 o.data.length c1, .int .i64 o.n, .slice A2 o.fails.length c2, .int .i64 o.cut, .slice A3 o.fs.length c3, .int .i64 o.fn] 55)).alloc (.cells #[.slice Af fs.length cf, .int .i64 fn] 39) := ⟨_, rfl⟩
  rw [← hw0]
  have f0 : Frm (fun _ => False) w w0 := by rw [hw0]; exact (((Frm.refl _ _).alloc _).alloc _).alloc _
  have b0 : w0.heap[w.heap.size]? = some (.cells #[.slice Ai l.length ci] 36 (0, 0)) := by rw [hw0]; exact (blk_alloc_lt (by simp only [World.size_alloc]; omega)).trans ((blk_alloc_lt (by simp only [World.size_alloc]; omega)).trans blk_alloc)
  have b1 : w0.heap[w.heap.size + 1]? = some (.cells #[.int .i64 o.kind, .string o.name, .string o.to_, .slice A1 o.data.length c1, .int .i64 o.n, .slice A2 o.fails.length c2, .int .i64 o.cut, .slice A3 o.fs.length c3, .int .i64 o.fn] 55 (0, 0)) := by
    rw [hw0]
    refine (blk_alloc_lt (by simp only [World.size_alloc]; omega)).trans ?_
    have := blk_alloc (w := w.alloc (.cells #[.slice Ai l.length ci] 36)) (o := .cells #[.int .i64 o.kind, .string o.name, .string o.to_, .slice A1 o.data.length c1, .int .i64 o.n, .slice A2 o.fails.length c2, .int .i64 o.cut, .slice A3 o.fs.length c3, .int .i64 o.fn] 55)
    simpa only [World.size_alloc] using this
  have b2 : w0.heap[w.heap.size + 1 + 1]? = some (.cells #[.slice Af fs.length cf, .int .i64 fn] 39 (0, 0)) := by
    rw [hw0]
    have := blk_alloc (w := (w.alloc (.cells #[.slice Ai l.length ci] 36)).alloc (.cells #[.int .i64 o.kind, .string o.name, .string o.to_, .slice A1 o.data.length c1, .int .i64 o.n, .slice A2 o.fails.length c2, .int .i64 o.cut, .slice A3 o.fs.length c3, .int .i64 o.fn] 55)) (o := .cells #[.slice Af fs.length cf, .int .i64 fn] 39)
    simpa only [World.size_alloc] using this
  have H0 := Lib.hid (And.intro f0 (And.intro b0 (And.intro b1 b2)))
  clear f0 b0 b1 b2 hw0
  go_upto_region 6 with (first
    | (go_at_call 10; refine (KL.out _ H0.out.1).mono ?_; rintro e w1 ⟨rfl, f1⟩; have F1 : Hid (Frm (fun _ => False) w0 w1) := Lib.hid f1; have x3 : w1.cell? ⟨w.heap.size, 0, none⟩ = some (.slice Ai l.length ci) := cell_of ((f1.block _ (Da.blk_lt H0.out.2.1) id).trans H0.out.2.1) rfl; clear f1)
    | (go_at_call 38; refine (KP.out _ (H0.out.1.trans F1.out (fun _ _ h => h))).mono ?_; rintro e w2 ⟨b, lab, n, m, D0, rfl, hL, hn, hm, f2⟩; have KF := Lib.hid (fresh_calls hL f2.size); have HLV := Lib.hid (And.intro hL (And.intro f2 (And.intro hn hm))); clear hL f2 hn hm x3)
    | (go_at_call 37; refine KF.out.mono ?_; rintro e w3 ⟨b3, rfl, lab3, hL3, hf3, _⟩; unfold dptr; have HL3 := Lib.hid (And.intro hL3 ((HLV.out.2.1.trans hf3 (fun k hk hl => by have := HLV.out.1.base k hl; omega)))); clear hL3 hf3))
  obtain ⟨hL, hfr3⟩ := HL3.out
  have hn := HLV.out.2.2.1
  have hm := HLV.out.2.2.2
  have hq := fresh_quiet D0
  have hB : w0.heap.size ≤ w1.heap.size := F1.out.size
  have f03 : Frm (fun _ => False) w0 w3 := F1.out.trans hfr3 (fun _ _ h => h)
  have hfr : Frm (fun _ => False) w w3 := H0.out.1.trans f03 (fun _ _ h => h)
  have hop3 := (f03.block _ (Da.blk_lt H0.out.2.2.1) id).trans H0.out.2.2.1
  have hfa3 := (f03.block _ (Da.blk_lt H0.out.2.2.2) id).trans H0.out.2.2.2
  have hl0 := Da.blk_lt H0.out.2.2.1
  have hl1 := Da.blk_lt H0.out.2.2.2
  have hs0 := H0.out.1.size
  generalize w1.heap.size = B at *
  clear KL KP KF HLV HL3 F1 H0 hfr3 f03
  generalize D0.fresh = D at *
  have x50 : w3.cell? ⟨w.heap.size + 1, 0, none⟩ = some (.int .i64 o.kind) := cell_of hop3 rfl
  have x53 : w3.cell? ⟨w.heap.size + 1, 3, none⟩ = some (.slice A1 o.data.length c1) := cell_of hop3 rfl
  have HL := Lib.hid (And.intro hL (And.intro hfr (And.intro hop3 (And.intro hfa3 (And.intro hl0 (And.intro hl1 (And.intro hs0 (And.intro hB (And.intro hq (And.intro hn hm))))))))))
  clear hL hfr hop3 hfa3 hl0 hl1 hs0 hB hq hn hm
  by_cases hko : (decide (1 ≤ o.kind) && decide (o.kind ≤ 7)) = true
  · by_cases hkd : 1048576 < o.data.length
    · rw [hko] at KOP
      go_wp2_with (first | (go_at_call 41; refine (KOP.out _).mono ?_; rintro e w4 ⟨rfl, rfl⟩))
      go_ret
      exact ⟨rfl, HL.out.2.1⟩
    · rw [hko] at KOP
      have hk17 : 1 ≤ o.kind ∧ o.kind ≤ 7 := by simpa using hko
      obtain ⟨hL, hfr, hop3, hfa3, hl0, hl1, hs0, hB, hq, hn, hm⟩ := HL.out
      have KSF : Hid (∀ W, Frm (fun _ => False) w3 W → Calls Tryz.prog 31 #[dptr b3] W fun e w' => ∃ A c, e = .returned (.agg #[.slice A (D.crash [] 0).length c]) ∧ ImgAt w' W.heap.size (.agg #[.slice A (D.crash [] 0).length c]) (D.crash [] 0) ∧ Frm (fun _ => False) W w') := fun W hW => (hL.self.on hW).safeC
      have KC : Hid (∀ W, Frm (fun _ => False) w3 W → Calls Tryz.prog 17 #[dptr b3, .agg #[.slice Af fs.length cf, .int .i64 fn]] W fun e w' => ∃ A c, e = .returned (.agg #[.slice A (D.crash fs fn).length c]) ∧ ImgAt w' W.heap.size (.agg #[.slice A (D.crash fs fn).length c]) (D.crash fs fn) ∧ Frm (fun _ => False) W w') := fun W hW =>
        (hL.self.on hW).crashC fs fn Af cf (fun j hj => by obtain ⟨ad, e, hc⟩ := HFS.out j hj; exact ⟨ad, e, frm_cell (hfr.trans hW (fun _ _ h => h)) hc⟩) hfl
      have KO : Hid (∀ W, Frm (fun _ => False) w3 W → Calls Tryz.prog 33 #[dptr b3] W fun e w' => e = .returned (.int .i64 D.count) ∧ w' = W) := fun W hW => (hL.self.on hW).opsC
      have zf : Hid (∀ W, Frm (fun _ => False) w3 W → W.cell? ⟨w.heap.size + 1 + 1, 0, none⟩ = some (.slice Af fs.length cf) ∧ W.cell? ⟨w.heap.size + 1 + 1, 1, none⟩ = some (.int .i64 fn)) := fun W hW =>
        ⟨cell_of ((hW.block _ (Da.blk_lt hfa3) id).trans hfa3) rfl, cell_of ((hW.block _ (Da.blk_lt hfa3) id).trans hfa3) rfl⟩
      have hlt3 := hL.lab_lt
      have hbase := hL.base
      have HQ := Lib.hid (And.intro hq (And.intro hL.inv (And.intro hlt3 (And.intro hbase (And.intro hL.sz hk17)))))
      clear hL hfr hop3 hfa3 hq hlt3 hbase hk17
      unfold dptr at KSF KC KO
      obtain ⟨s2, hs2⟩ : ∃ s2, s2 = D.crash [] 0 := ⟨_, rfl⟩
      obtain ⟨s3, hs3⟩ : ∃ s3, s3 = D.crash fs fn := ⟨_, rfl⟩
      rw [← hs2] at KSF
      rw [← hs3] at KC
      have HSS := Lib.hid (And.intro hs2 hs3)
      clear hs2 hs3
      go_upto_region 11 with (first
        | (go_at_call 41; refine (KOP.out _).mono ?_; rintro e w3 ⟨rfl, rfl⟩)
        | (go_at_call 31; refine (KSF.out _ (Frm.refl _ _)).mono ?_; rintro e w5 ⟨p5, c5, rfl, hi5, f5⟩; have H5 := Lib.hid (And.intro hi5 f5); have z5 := zf.out _ (H5.out.2.alloc (.cells #[.slice p5 s2.length c5] 36)); clear hi5 f5)
        | (go_at_call 17; refine (KC.out _ (H5.out.2.alloc _)).mono ?_; rintro e w6 ⟨p6, c6, rfl, hi6, f6⟩; have H6 := Lib.hid (And.intro hi6 (And.intro f6 ((H5.out.2.alloc _).trans f6 (fun _ _ h => h)))); clear hi6 f6)
        | (go_at_call 33; refine (KO.out _ (H6.out.2.2.alloc _)).mono ?_; rintro e w7 ⟨rfl, rfl⟩))
      obtain ⟨W6, hW6⟩ : ∃ W6, W6 = w6.alloc (.cells #[.slice p6 s3.length c6] 36) := ⟨_, rfl⟩
      rw [← hW6]
      obtain ⟨hL, hfr, hop3, hfa3, hl0, hl1, hs0, hB, hq, hn, hm⟩ := HL.out
      have f66 : Frm (fun _ => False) w6 W6 := by rw [hW6]; exact (Frm.refl _ _).alloc _
      have f56 : Frm (fun _ => False) w5 W6 := (((Frm.refl _ _).alloc _).trans H6.out.2.1 (fun _ _ h => h)).trans f66 (fun _ _ h => h)
      have f36 : Frm (fun _ => False) w3 W6 := H5.out.2.trans f56 (fun _ _ h => h)
      have q2 : W6.heap[w5.heap.size]? = some (.cells #[.slice p5 s2.length c5] 36 (0, 0)) := (((H6.out.2.1.trans f66 (fun _ _ h => h)).block _ (by simp) id)).trans blk_alloc
      have q3 : W6.heap[w6.heap.size]? = some (.cells #[.slice p6 s3.length c6] 36 (0, 0)) := by rw [hW6]; exact blk_alloc
      have qo := (f36.block _ (Da.blk_lt hop3) id).trans hop3
      have qf := (f36.block _ (Da.blk_lt hfa3) id).trans hfa3
      have i2 := H5.out.1.keep f56 (fun _ h => h.elim)
      have i3 := H6.out.1.keep f66 (fun _ h => h.elim)
      have z5' := H5.out.2.size
      have z6 := H6.out.2.2.size
      have hlt3 := hL.lab_lt
      have hbase := hL.base
      have HW : Hid (∀ W n' m' D', Next B W6 lab3 W b3 eb l7 n' m' D' → Frm (fun _ => False) w W ∧ Frm (fun k => B ≤ k) w W ∧ ImgRd W (.agg #[.slice p5 s2.length c5]) s2 ∧ ImgRd W (.agg #[.slice p6 s3.length c6]) s3 ∧ W.heap[w5.heap.size]? = some (.cells #[.slice p5 s2.length c5] 36 (0, 0)) ∧ W.heap[w6.heap.size]? = some (.cells #[.slice p6 s3.length c6] 36 (0, 0)) ∧
          W.heap[w.heap.size + 1]? = some (.cells #[.int .i64 o.kind, .string o.name, .string o.to_, .slice A1 o.data.length c1, .int .i64 o.n, .slice A2 o.fails.length c2, .int .i64 o.cut, .slice A3 o.fs.length c3, .int .i64 o.fn] 55 (0, 0)) ∧ W.heap[w.heap.size + 1 + 1]? = some (.cells #[.slice Af fs.length cf, .int .i64 fn] 39 (0, 0))) := by
        intro W n' m' D' h
        have hf := h.frmF
        have hft : Frm (fun _ => False) w W := (hfr.trans f36 (fun _ _ h => h)).trans hf (fun k hk hl => by have := hbase k hl; omega)
        have k1 : ∀ g, w3.heap.size ≤ g → ¬ Ft lab3 g := fun g hg hl => by have := hlt3 g hl; omega
        have k2 : ∀ g, g < B → ¬ Ft lab3 g := fun g hg hl => by have := hbase g hl; omega
        refine ⟨hft, hft.mono (fun _ _ h => h.elim), (i2.keep hf (fun k hl => hlt3 k hl)).rd, (i3.keep hf (fun k hl => ?_)).rd, (hf.block _ (Da.blk_lt q2) (k1 _ z5')).trans q2, (hf.block _ (Da.blk_lt q3) (k1 _ z6)).trans q3, (hf.block _ (Da.blk_lt qo) (k2 _ (by omega))).trans qo, (hf.block _ (Da.blk_lt qf) (k2 _ (by omega))).trans qf⟩
        have := hlt3 k hl; simp only [World.size_alloc]; omega
      have HW2 : Hid (∀ W, Frm (fun k => Ft lab3 k ∨ k = w6.heap.size) W6 W → Frm (fun _ => False) w W ∧ ImgRd W (.agg #[.slice p5 s2.length c5]) s2 ∧ W.heap[w5.heap.size]? = some (.cells #[.slice p5 s2.length c5] 36 (0, 0)) ∧ W.heap[w.heap.size + 1 + 1]? = some (.cells #[.slice Af fs.length cf, .int .i64 fn] 39 (0, 0))) := by
        intro W hf
        have hw36 : w3.heap.size ≤ w6.heap.size := z6
        have hBw : B ≤ w3.heap.size := by
          obtain ⟨A, hd⟩ := hL.dsk
          have := hd.base _ _ hd.lb
          omega
        have z56 : w5.heap.size < w6.heap.size := by have h1 := H6.out.2.1.size; simp only [World.size_alloc] at h1; omega
        have fF : Frm (fun k => Ft lab3 k ∨ w5.heap.size ≤ k) w5 W := (f56.mono (fun _ _ h => h.elim)).trans hf (fun k hk hl => hl.imp id (fun e => by omega))
        refine ⟨(hfr.trans f36 (fun _ _ h => h)).trans hf (fun k hk hl => ?_), (H5.out.1.keep2 fF (fun k hk hl => ?_)).rd, (hf.block _ (Da.blk_lt q2) ?_).trans q2, (hf.block _ (Da.blk_lt qf) ?_).trans qf⟩
        · rcases hl with hl | rfl
          · have := hbase k hl; omega
          · omega
        · rcases hl with hl | hl
          · exact hlt3 k hl
          · omega
        · rintro (hl | hl)
          · have := hlt3 _ hl; omega
          · omega
        · rintro (hl | hl)
          · have := hbase _ hl; omega
          · omega
      have hBw3 : B ≤ w3.heap.size := by
        obtain ⟨A, hd⟩ := hL.dsk
        have := hd.base _ _ hd.lb
        omega
      have hs36 := f36.size
      have HSZ : Hid (B ≤ w3.heap.size ∧ w3.heap.size ≤ w6.heap.size ∧ w6.heap.size < W6.heap.size ∧ ∀ k, Ft lab3 k → k < w3.heap.size) := Lib.hid ⟨hBw3, z6, by rw [hW6]; simp, hlt3⟩
      have hx6 : Next B W6 lab3 W6 b3 eb l7 n m D := (hL.frm f36).self
      have KA2 : Hid (Calls Tryz.prog 42 #[.pointer (some ⟨b3, 0, none⟩), .slice none 0 0, .int .i64 1] W6 fun e w' => e = .returned (.tuple #[]) ∧ Next B W6 lab3 w' b3 eb l7 n m (D.arm [] 1)) := Lib.hid (hx6.armC _ [] 1 (fails_none W6) (by simp))
      have KAS : Hid (∀ W, Next B W6 lab3 W b3 eb l7 n m (D.arm [] 1) → Calls Tryz.prog 25 #[dptr b3, .agg #[.int .i64 o.kind, .string o.name, .string o.to_, .slice A1 o.data.length c1, .int .i64 o.n, .slice A2 o.fails.length c2, .int .i64 o.cut, .slice A3 o.fs.length c3, .int .i64 o.fn]] W fun e w' => ∃ av, e = .returned av ∧ AnsAt w' W.heap.size av ((D.arm [] 1).ask o).1 ∧ Next B W6 lab3 w' b3 eb l7 (n + 1) (m + o.data.length) ((D.arm [] 1).ask o).2) := fun W h => by
        have hw := HW.out _ _ _ _ h
        have hx := h.frmF.size
        exact h.askC ((H15.out.frm hw.1 (fun _ h => h.elim)).up (by omega)) (by omega) hw.2.1 (by omega) o _ HO.out.1 HO.out.2.1 (by omega) (fun _ => Nat.le_refl _) (.small (by omega) (by omega))
      have hcut := ask_cut HQ.out.2.1 HQ.out.1.off o HQ.out.2.2.2.2.2.1 HQ.out.2.2.2.2.2.2
      have hcount : D.count ≤ 1052672 := Nat.le_trans hL.sz.count hn
      have HCU := Lib.hid hcut
      obtain ⟨E, hE⟩ : ∃ E, E = ((D.arm [] 1).ask o).2 := ⟨_, rfl⟩
      obtain ⟨an, han⟩ : ∃ an, an = ((D.arm [] 1).ask o).1 := ⟨_, rfl⟩
      rw [← hE, ← han] at KAS HCU
      have hae : an.e = 7 := HCU.out.1
      clear hL hfr hop3 hfa3 hl0 hl1 hs0 hB hq hn hm f66 f56 f36 q2 q3 qo qf i2 i3 z5 z5' z6 hlt3 hbase hcut hW6 hE han KSF KC KO zf KOP x50 x53 H5 H6 hBw3 hs36 hx6
      unfold dptr at KAS
      go_upto_region 13 with (first
        | (go_at_call 42; refine KA2.out.mono ?_; rintro e w7 ⟨rfl, h7⟩; have HX7 := Lib.hid h7; have HY7 := (HW.out _ _ _ _ h7).2.2.2.2.2.2.1; have y0 : w7.cell? ⟨w.heap.size + 1, 0, none⟩ = _ := cell_of HY7 rfl; have y1 : w7.cell? ⟨w.heap.size + 1, 1, none⟩ = _ := cell_of HY7 rfl; have y2 : w7.cell? ⟨w.heap.size + 1, 2, none⟩ = _ := cell_of HY7 rfl; have y3 : w7.cell? ⟨w.heap.size + 1, 3, none⟩ = _ := cell_of HY7 rfl; have y4 : w7.cell? ⟨w.heap.size + 1, 4, none⟩ = _ := cell_of HY7 rfl; have y5 : w7.cell? ⟨w.heap.size + 1, 5, none⟩ = _ := cell_of HY7 rfl; have y6 : w7.cell? ⟨w.heap.size + 1, 6, none⟩ = _ := cell_of HY7 rfl; have y7 : w7.cell? ⟨w.heap.size + 1, 7, none⟩ = _ := cell_of HY7 rfl; have y8 : w7.cell? ⟨w.heap.size + 1, 8, none⟩ = _ := cell_of HY7 rfl; clear h7 HY7)
        | (go_at_call 25; refine (KAS.out _ HX7.out).mono ?_; rintro e w8 ⟨av, rfl, ⟨dv, bv, sv, iv, rfl, hans⟩, h8⟩; obtain ⟨g1, g2, rfl⟩ := own_form hans.data; obtain ⟨g3, g4, rfl⟩ := own_form hans.bad; obtain ⟨g5, g6, rfl⟩ := own_form hans.strs; obtain ⟨g7, g8, rfl⟩ := Kd.R_slice hans.img; rw [hae]; have HX8 := Lib.hid h8; clear h8 hans))
      obtain ⟨w9, hw9⟩ : ∃ w9, w9 = w8.alloc (.cells #[.int .i64 7, .slice g1 an.data.length g2, .slice g3 an.bad.length g4, .slice g5 an.strs.length g6, .slice g7 an.img.length g8, .int .i64 an.a, .int .i64 an.b, .bool an.yes] 59) := ⟨_, rfl⟩
      rw [← hw9]
      have nx9 : Next B W6 lab3 w9 b3 eb l7 (n + 1) (m + o.data.length) E := by rw [hw9]; exact HX8.out.on ((Frm.refl _ _).alloc _)
      have r0 : w9.heap[w8.heap.size]? = some (.cells #[.int .i64 7, .slice g1 an.data.length g2, .slice g3 an.bad.length g4, .slice g5 an.strs.length g6, .slice g7 an.img.length g8, .int .i64 an.a, .int .i64 an.b, .bool an.yes] 59 (0, 0)) := by rw [hw9]; exact blk_alloc
      have hEi : Inv E := nx9.inv
      have hEs : E.crash [] 0 = s2 := by rw [HSS.out.1]; exact HCU.out.2.2.2.1.crash HQ.out.2.1 hEi
      have HU : Hid (∀ W, Frm (fun _ => False) w9 W → Next B W6 lab3 W b3 eb l7 (n + 1) (m + o.data.length) E ∧ W.cell? ⟨w8.heap.size, 0, none⟩ = some (.int .i64 7) ∧ W.cell? ⟨w5.heap.size, 0, none⟩ = some (.slice p5 s2.length c5) ∧ W.cell? ⟨w6.heap.size, 0, none⟩ = some (.slice p6 s3.length c6) ∧ W.cell? ⟨w.heap.size + 1, 0, none⟩ = some (.int .i64 o.kind) ∧ W.cell? ⟨w.heap.size + 1 + 1, 0, none⟩ = some (.slice Af fs.length cf) ∧ W.cell? ⟨w.heap.size + 1 + 1, 1, none⟩ = some (.int .i64 fn)) := fun W f => by
        have nx := nx9.on f
        have h := HW.out _ _ _ _ nx
        have ho := h.2.2.2.2.2.2.1
        have hfa := h.2.2.2.2.2.2.2
        exact ⟨nx, cell_of ((f.block _ (Da.blk_lt r0) id).trans r0) rfl, cell_of h.2.2.2.2.1 rfl, cell_of h.2.2.2.2.2.1 rfl, cell_of ho rfl, cell_of hfa rfl, cell_of hfa rfl⟩
      have KOP2 : Hid (∀ W, Frm (fun _ => False) w9 W → Calls Tryz.prog 33 #[dptr b3] W fun e w' => e = .returned (.int .i64 ((D.count : Int) + 1)) ∧ w' = W) := fun W f => by
        have := (nx9.on f).opsC
        rw [HCU.out.2.2.1] at this
        exact this
      have KDN : Hid (∀ W, Frm (fun _ => False) w9 W → Calls Tryz.prog 35 #[dptr b3] W fun e w' => e = .returned (.bool true) ∧ w' = W) := fun W f => by
        have := (nx9.on f).downC
        rw [HCU.out.2.1] at this
        exact this
      have KSF3 : Hid (∀ W, Frm (fun _ => False) w9 W → Calls Tryz.prog 31 #[.pointer (some ⟨b3, 0, none⟩)] W fun e w' => ∃ A c, e = .returned (.agg #[.slice A s2.length c]) ∧ ImgRd w' (.agg #[.slice A s2.length c]) s2 ∧ Frm (fun _ => False) w9 w') := fun W hW => by
        have := (nx9.on hW).safeC
        rw [hEs] at this
        exact this.mono (by rintro e w' ⟨A, c, e1, e2, e3⟩; exact ⟨A, c, e1, e2.rd, hW.trans e3 (fun _ _ h => h)⟩)
      have KI : Hid (∀ W v1 v2 l, ImgRd W v1 l → ImgRd W v2 l → ImgOk l → Calls Tryz.prog 28 #[v1, v2] W fun e w' => e = .returned (.bool true) ∧ Frm (fun _ => False) W w') := fun W v1 v2 l h1 h2 ok => images_same W v1 v2 l h1 h2 ok
      have HI2 := Lib.hid (HW.out _ _ _ _ nx9).2.2.1
      have HOK2 : Hid (ImgOk s2) := by
        have := nx9.crashOk [] 0
        rw [hEs] at this
        exact Lib.hid this
      have HES := Lib.hid hEs
      have S0' := HU.out w9 (Frm.refl _ _)
      have S0 := And.intro S0'.2.1 S0'.2.2.1
      have D0'' := HU.out w9.drew (Frm.refl _ _).drew
      have D0' := And.intro D0''.2.1 D0''.2.2.1
      have zz : Hid (∀ W, Frm (fun _ => False) w9 W → W.cell? ⟨w8.heap.size, 0, none⟩ = some (.int .i64 7) ∧ W.cell? ⟨w5.heap.size, 0, none⟩ = some (.slice p5 s2.length c5)) := fun W f => ⟨(HU.out W f).2.1, (HU.out W f).2.2.1⟩
      clear S0' D0'' nx9 hw9 r0 hEi hEs HX7 HX8 KA2 KAS y0 y1 y2 y3 y4 y5 y6 y7 y8 hae
      unfold dptr at KOP2 KDN
      have hwr : IntKind.i64.wrap ((D.count : Int) + 1) = (D.count : Int) + 1 := by rw [IntKind.wrap_i64]; omega
      go_region_held3 (fun w' => w'.cell? ⟨w8.heap.size, 0, none⟩ = some (.int .i64 7) ∧ w'.cell? ⟨w5.heap.size, 0, none⟩ = some (.slice p5 s2.length c5))
        (first | exact S0 | exact D0' | exact zz.out _ HX1.out.1 | exact zz.out _ HX2.out | go_keep)
        (first
          | (go_at_call 35; (with_reducible refine (KDN.out _ (by first | exact Frm.refl _ _ | exact (Frm.refl _ _).drew)).mono ?_); rintro e u0 ⟨rfl, rfl⟩)
          | (go_at_call 33; (with_reducible refine (KOP2.out _ (by first | exact Frm.refl _ _ | exact (Frm.refl _ _).drew)).mono ?_); rintro e u0 ⟨rfl, rfl⟩)
          | (go_at_call 31; (with_reducible refine (KSF3.out _ (by first | exact Frm.refl _ _ | exact (Frm.refl _ _).drew)).mono ?_); rintro e u3 ⟨A3, c3, rfl, hr3, f3⟩; have HX1 := Lib.hid (And.intro f3 hr3); clear hr3 f3)
          | (go_at_call 28; (with_reducible refine (KI.out _ _ _ s2 HX1.out.2 (HI2.out.frm HX1.out.1) HOK2.out).mono ?_); rintro e u4 ⟨rfl, f4⟩; have HX2 : Hid (Frm (fun _ => False) w9 u4) := Lib.hid (HX1.out.1.trans f4 (fun _ _ h => h)); clear f4))
      go_upto_region 15 with (fail)
      go_cut [91] from 71 to 91 (fun t wx => t = .bool false ∧ Frm (fun _ => False) w9 wx)
      case first =>
        by_cases hk3 : o.kind = 3
        · have HC3 : Hid (E.crash fs fn = s3) := Lib.hid ((HCU.out.2.2.2.2 (Or.inl hk3) fs fn).trans HSS.out.2.symm)
          have hkk := hk3
          have KC3 : Hid (∀ W, Frm (fun _ => False) w9 W → Calls Tryz.prog 17 #[.pointer (some ⟨b3, 0, none⟩), .agg #[.slice Af fs.length cf, .int .i64 fn]] W fun e w' => ∃ A c, e = .returned (.agg #[.slice A s3.length c]) ∧ ImgRd w' (.agg #[.slice A s3.length c]) s3 ∧ Frm (fun _ => False) w9 w') := fun W hW => by
            have := (HU.out W hW).1.crashC fs fn Af cf (fun j hj => by obtain ⟨ad, e, hc⟩ := HFS.out j hj; exact ⟨ad, e, frm_cell (HW.out _ _ _ _ (HU.out W hW).1).1 hc⟩) hfl
            rw [HC3.out] at this
            exact this.mono (by rintro e w' ⟨A, c, e1, e2, e3⟩; exact ⟨A, c, e1, e2.rd, hW.trans e3 (fun _ _ h => h)⟩)
          have yy : Hid (∀ W, Frm (fun _ => False) w9 W → W.cell? ⟨w6.heap.size, 0, none⟩ = some (.slice p6 s3.length c6) ∧ W.cell? ⟨w.heap.size + 1, 0, none⟩ = some (.int .i64 o.kind) ∧ W.cell? ⟨w.heap.size + 1 + 1, 0, none⟩ = some (.slice Af fs.length cf) ∧ W.cell? ⟨w.heap.size + 1 + 1, 1, none⟩ = some (.int .i64 fn)) := fun W f => ⟨(HU.out W f).2.2.2.1, (HU.out W f).2.2.2.2.1, (HU.out W f).2.2.2.2.2.1, (HU.out W f).2.2.2.2.2.2⟩
          have S1 := yy.out _ HX2.out
          have D1 := yy.out _ HX2.out.drew
          have HOK3 : Hid (ImgOk s3) := by
            have := (HU.out _ HX2.out).1.crashOk fs fn
            rw [HC3.out] at this
            exact Lib.hid this
          have HI3 := Lib.hid (HW.out _ _ _ _ (HU.out _ HX2.out).1).2.2.2.1
          have hki : o.kind = 3 := hkk
          rw [hki] at S1 D1 yy
          clear hki hkk hk3 S0 D0'
          refine wp_region_held_drew (S := (fun w' => w'.cell? ⟨w6.heap.size, 0, none⟩ = some (.slice p6 s3.length c6) ∧ w'.cell? ⟨w.heap.size + 1, 0, none⟩ = some (.int .i64 3) ∧ w'.cell? ⟨w.heap.size + 1 + 1, 0, none⟩ = some (.slice Af fs.length cf) ∧ w'.cell? ⟨w.heap.size + 1 + 1, 1, none⟩ = some (.int .i64 fn))) (by kernel_rfl) D1 (fun hHeld => ?_)
          refine wpAnyH_take (i := 0) (v := ?_) (by simp only [List.getElem?_toArray, List.getElem?_cons_succ, List.getElem?_cons_zero]; exact rfl) (by kernel_rfl) (by kernel_rfl) (by kernel_rfl) (by exact fun _ _ _ h => h) (Or.inl ⟨by rfl, ?_⟩) (by assumption) ?_
          rotate_left
          · intro w hSw
            try dsimp only at hSw
            go_simp
            try with_reducible rfl
          simp only [Act.put, List.setIfInBounds_toArray, List.set_cons_zero, List.set_cons_succ]
          refine wpAnyH_take (i := 1) (v := ?_) (by simp only [List.getElem?_toArray, List.getElem?_cons_succ, List.getElem?_cons_zero]; exact rfl) (by kernel_rfl) (by kernel_rfl) (by kernel_rfl) (by exact fun _ _ _ h => h) (Or.inl ⟨by rfl, ?_⟩) (by assumption) ?_
          rotate_left
          · intro w hSw
            try dsimp only at hSw
            go_simp
            try with_reducible rfl
          simp only [Act.put, List.setIfInBounds_toArray, List.set_cons_zero, List.set_cons_succ]
          refine wpAnyH_take (i := 2) (v := ?_) (by simp only [List.getElem?_toArray, List.getElem?_cons_succ, List.getElem?_cons_zero]; exact rfl) (by kernel_rfl) (by kernel_rfl) (by kernel_rfl) (by exact fun _ _ _ h => h) (Or.inl ⟨by rfl, ?_⟩) (by assumption) ?_
          rotate_left
          · intro w hSw
            try dsimp only at hSw
            go_simp
            try with_reducible rfl
          simp only [Act.put, List.setIfInBounds_toArray, List.set_cons_zero, List.set_cons_succ]
          refine wpAnyH_take (i := 3) (v := ?_) (by simp only [List.getElem?_toArray, List.getElem?_cons_succ, List.getElem?_cons_zero]; exact rfl) (by kernel_rfl) (by kernel_rfl) (by kernel_rfl) (by exact fun _ _ _ h => h) (Or.inl ⟨by rfl, ?_⟩) (by assumption) ?_
          rotate_left
          · intro w hSw
            try dsimp only at hSw
            go_simp
            try with_reducible rfl
          simp only [Act.put, List.setIfInBounds_toArray, List.set_cons_zero, List.set_cons_succ]
          refine wpAnyH_take (i := 4) (v := undef) (by simp only [List.getElem?_toArray, List.getElem?_cons_succ, List.getElem?_cons_zero]; exact rfl) (by kernel_rfl) (by kernel_rfl) (by kernel_rfl) (by exact fun _ _ _ h => h) (Or.inr ⟨by rfl, rfl⟩) (by assumption) ?_
          simp only [Act.put, List.setIfInBounds_toArray, List.set_cons_zero, List.set_cons_succ]
          refine wpAnyH_take (i := 5) (v := undef) (by simp only [List.getElem?_toArray, List.getElem?_cons_succ, List.getElem?_cons_zero]; exact rfl) (by kernel_rfl) (by kernel_rfl) (by kernel_rfl) (by exact fun _ _ _ h => h) (Or.inr ⟨by rfl, rfl⟩) (by assumption) ?_
          simp only [Act.put, List.setIfInBounds_toArray, List.set_cons_zero, List.set_cons_succ]
          refine wpAnyH_take (i := 6) (v := undef) (by simp only [List.getElem?_toArray, List.getElem?_cons_succ, List.getElem?_cons_zero]; exact rfl) (by kernel_rfl) (by kernel_rfl) (by kernel_rfl) (by exact fun _ _ _ h => h) (Or.inr ⟨by rfl, rfl⟩) (by assumption) ?_
          simp only [Act.put, List.setIfInBounds_toArray, List.set_cons_zero, List.set_cons_succ]
          refine wpAnyH_take (i := 7) (v := ?_) (by simp only [List.getElem?_toArray, List.getElem?_cons_succ, List.getElem?_cons_zero]; exact rfl) (by kernel_rfl) (by kernel_rfl) (by kernel_rfl) (by exact fun _ _ _ h => h) (Or.inl ⟨by rfl, ?_⟩) (by assumption) ?_
          rotate_left
          · intro w hSw
            try dsimp only at hSw
            go_simp
            try with_reducible rfl
          simp only [Act.put, List.setIfInBounds_toArray, List.set_cons_zero, List.set_cons_succ]
          refine wpAnyH_take (i := 8) (v := ?_) (by simp only [List.getElem?_toArray, List.getElem?_cons_succ, List.getElem?_cons_zero]; exact rfl) (by kernel_rfl) (by kernel_rfl) (by kernel_rfl) (by exact fun _ _ _ h => h) (Or.inl ⟨by rfl, ?_⟩) (by assumption) ?_
          rotate_left
          · intro w hSw
            try dsimp only at hSw
            go_simp
            try with_reducible rfl
          simp only [Act.put, List.setIfInBounds_toArray, List.set_cons_zero, List.set_cons_succ]
          refine wpAnyH_take (i := 9) (v := undef) (by simp only [List.getElem?_toArray, List.getElem?_cons_succ, List.getElem?_cons_zero]; exact rfl) (by kernel_rfl) (by kernel_rfl) (by kernel_rfl) (by exact fun _ _ _ h => h) (Or.inr ⟨by rfl, rfl⟩) (by assumption) ?_
          simp only [Act.put, List.setIfInBounds_toArray, List.set_cons_zero, List.set_cons_succ]
          refine wpAnyH_take (i := 10) (v := undef) (by simp only [List.getElem?_toArray, List.getElem?_cons_succ, List.getElem?_cons_zero]; exact rfl) (by kernel_rfl) (by kernel_rfl) (by kernel_rfl) (by exact fun _ _ _ h => h) (Or.inr ⟨by rfl, rfl⟩) (by assumption) ?_
          simp only [Act.put, List.setIfInBounds_toArray, List.set_cons_zero, List.set_cons_succ]
          refine wpAnyH_take (i := 11) (v := undef) (by simp only [List.getElem?_toArray, List.getElem?_cons_succ, List.getElem?_cons_zero]; exact rfl) (by kernel_rfl) (by kernel_rfl) (by kernel_rfl) (by exact fun _ _ _ h => h) (Or.inr ⟨by rfl, rfl⟩) (by assumption) ?_
          simp only [Act.put, List.setIfInBounds_toArray, List.set_cons_zero, List.set_cons_succ]
          refine wpAnyH_take (i := 12) (v := ?_) (by simp only [List.getElem?_toArray, List.getElem?_cons_succ, List.getElem?_cons_zero]; exact rfl) (by kernel_rfl) (by kernel_rfl) (by kernel_rfl) (by exact fun _ _ _ h => h) (Or.inl ⟨by rfl, ?_⟩) (by assumption) ?_
          rotate_left
          · intro w hSw
            try dsimp only at hSw
            go_simp
            try with_reducible rfl
          simp only [Act.put, List.setIfInBounds_toArray, List.set_cons_zero, List.set_cons_succ]
          refine wpAnyH_take (i := 13) (v := ?_) (by simp only [List.getElem?_toArray, List.getElem?_cons_succ, List.getElem?_cons_zero]; exact rfl) (by kernel_rfl) (by kernel_rfl) (by kernel_rfl) (by exact fun _ _ _ h => h) (Or.inl ⟨by rfl, ?_⟩) (by assumption) ?_
          rotate_left
          · intro w hSw
            try dsimp only at hSw
            go_simp
            try with_reducible rfl
          simp only [Act.put, List.setIfInBounds_toArray, List.set_cons_zero, List.set_cons_succ]
          refine wpAnyH_take (i := 14) (v := ?_) (by simp only [List.getElem?_toArray, List.getElem?_cons_succ, List.getElem?_cons_zero]; exact rfl) (by kernel_rfl) (by kernel_rfl) (by kernel_rfl) (by exact fun _ _ _ h => h) (Or.inl ⟨by rfl, ?_⟩) (by assumption) ?_
          rotate_left
          · intro w hSw
            try dsimp only at hSw
            go_simp
            try with_reducible rfl
          simp only [Act.put, List.setIfInBounds_toArray, List.set_cons_zero, List.set_cons_succ]
          refine wpAnyH_take (i := 15) (v := ?_) (by simp only [List.getElem?_toArray, List.getElem?_cons_succ, List.getElem?_cons_zero]; exact rfl) (by kernel_rfl) (by kernel_rfl) (by kernel_rfl) (by exact fun _ _ _ h => h) (Or.inl ⟨by rfl, ?_⟩) (by assumption) ?_
          rotate_left
          · intro w hSw
            try dsimp only at hSw
            go_simp
            try with_reducible rfl
          simp only [Act.put, List.setIfInBounds_toArray, List.set_cons_zero, List.set_cons_succ]
          refine wpAnyH_take (i := 17) (v := ?_) (by simp only [List.getElem?_toArray, List.getElem?_cons_succ, List.getElem?_cons_zero]; exact rfl) (by kernel_rfl) (by kernel_rfl) (by kernel_rfl) (by exact fun _ _ _ h => h) (Or.inl ⟨by rfl, ?_⟩) (by assumption) ?_
          rotate_left
          · intro w hSw
            try dsimp only at hSw
            go_simp
            try with_reducible rfl
          simp only [Act.put, List.setIfInBounds_toArray, List.set_cons_zero, List.set_cons_succ]
          refine wpAnyH_ready (rs := [16]) (by kernel_rfl) (by simp) ?_
          refine AllReadyH.cons (by simp only [List.getElem?_toArray, List.getElem?_cons_succ, List.getElem?_cons_zero]; exact rfl) (fun K hK => ?_) AllReadyH.nil
          go_simp
          (go_at_call 17; (with_reducible refine (KC3.out _ (by first | exact HX2.out | exact HX2.out.drew)).mono ?_); rintro e u5 ⟨A5, c5', rfl, hr5, f5⟩; have HX3 := Lib.hid (And.intro f5 hr5); clear hr5 f5)
          try go_wp2_with fail
          refine hK.out _ _ (yy.out _ HX3.out.1) (fun hHeld => ?_)
          clear hK K
          try simp only [Act.put, List.setIfInBounds_toArray, List.set_cons_zero, List.set_cons_succ]
          refine wpAnyH_ready (rs := [18]) (by kernel_rfl) (by simp) ?_
          refine AllReadyH.cons (by simp only [List.getElem?_toArray, List.getElem?_cons_succ, List.getElem?_cons_zero]; exact rfl) (fun K hK => ?_) AllReadyH.nil
          go_simp
          (go_at_call 28; (with_reducible refine (KI.out _ _ _ s3 HX3.out.2 ((HW.out _ _ _ _ (HU.out _ HX3.out.1).1).2.2.2.1) HOK3.out).mono ?_); rintro e u6 ⟨rfl, f6⟩; have HX4 : Hid (Frm (fun _ => False) w9 u6) := Lib.hid (HX3.out.1.trans f6 (fun _ _ h => h)); clear f6)
          try go_wp2_with fail
          refine hK.out _ _ (yy.out _ HX4.out) (fun hHeld => ?_)
          clear hK K
          try simp only [Act.put, List.setIfInBounds_toArray, List.set_cons_zero, List.set_cons_succ]
          refine wpAnyH_take (i := 19) (v := ?_) (by simp only [List.getElem?_toArray, List.getElem?_cons_succ, List.getElem?_cons_zero]; exact rfl) (by kernel_rfl) (by kernel_rfl) (by kernel_rfl) (by exact fun _ _ _ h => h) (Or.inl ⟨by rfl, ?_⟩) (by assumption) ?_
          rotate_left
          · intro w hSw
            try dsimp only at hSw
            go_simp
            try with_reducible rfl
          simp only [Act.put, List.setIfInBounds_toArray, List.set_cons_zero, List.set_cons_succ]
          refine wpAnyH_take (i := 20) (v := ?_) (by simp only [List.getElem?_toArray, List.getElem?_cons_succ, List.getElem?_cons_zero]; exact rfl) (by kernel_rfl) (by kernel_rfl) (by kernel_rfl) (by exact fun _ _ _ h => h) (Or.inl ⟨by rfl, ?_⟩) (by assumption) ?_
          rotate_left
          · intro w hSw
            try dsimp only at hSw
            go_simp
            try with_reducible rfl
          simp only [Act.put, List.setIfInBounds_toArray, List.set_cons_zero, List.set_cons_succ]
          refine wpAnyH_done (by kernel_rfl) ?_ _
          go_wp2
          all_goals
            go_meet
            case rel => exact ⟨rfl, HX4.out⟩
        · by_cases hk4 : o.kind = 4
          · have HC3 : Hid (E.crash fs fn = s3) := Lib.hid ((HCU.out.2.2.2.2 (Or.inr (Or.inl hk4)) fs fn).trans HSS.out.2.symm)
            have hkk := hk4
            have KC3 : Hid (∀ W, Frm (fun _ => False) w9 W → Calls Tryz.prog 17 #[.pointer (some ⟨b3, 0, none⟩), .agg #[.slice Af fs.length cf, .int .i64 fn]] W fun e w' => ∃ A c, e = .returned (.agg #[.slice A s3.length c]) ∧ ImgRd w' (.agg #[.slice A s3.length c]) s3 ∧ Frm (fun _ => False) w9 w') := fun W hW => by
              have := (HU.out W hW).1.crashC fs fn Af cf (fun j hj => by obtain ⟨ad, e, hc⟩ := HFS.out j hj; exact ⟨ad, e, frm_cell (HW.out _ _ _ _ (HU.out W hW).1).1 hc⟩) hfl
              rw [HC3.out] at this
              exact this.mono (by rintro e w' ⟨A, c, e1, e2, e3⟩; exact ⟨A, c, e1, e2.rd, hW.trans e3 (fun _ _ h => h)⟩)
            have yy : Hid (∀ W, Frm (fun _ => False) w9 W → W.cell? ⟨w6.heap.size, 0, none⟩ = some (.slice p6 s3.length c6) ∧ W.cell? ⟨w.heap.size + 1, 0, none⟩ = some (.int .i64 o.kind) ∧ W.cell? ⟨w.heap.size + 1 + 1, 0, none⟩ = some (.slice Af fs.length cf) ∧ W.cell? ⟨w.heap.size + 1 + 1, 1, none⟩ = some (.int .i64 fn)) := fun W f => ⟨(HU.out W f).2.2.2.1, (HU.out W f).2.2.2.2.1, (HU.out W f).2.2.2.2.2.1, (HU.out W f).2.2.2.2.2.2⟩
            have S1 := yy.out _ HX2.out
            have D1 := yy.out _ HX2.out.drew
            have HOK3 : Hid (ImgOk s3) := by
              have := (HU.out _ HX2.out).1.crashOk fs fn
              rw [HC3.out] at this
              exact Lib.hid this
            have HI3 := Lib.hid (HW.out _ _ _ _ (HU.out _ HX2.out).1).2.2.2.1
            have hki : o.kind = 4 := hkk
            rw [hki] at S1 D1 yy
            clear hki hkk hk4 S0 D0'
            refine wp_region_held_drew (S := (fun w' => w'.cell? ⟨w6.heap.size, 0, none⟩ = some (.slice p6 s3.length c6) ∧ w'.cell? ⟨w.heap.size + 1, 0, none⟩ = some (.int .i64 4) ∧ w'.cell? ⟨w.heap.size + 1 + 1, 0, none⟩ = some (.slice Af fs.length cf) ∧ w'.cell? ⟨w.heap.size + 1 + 1, 1, none⟩ = some (.int .i64 fn))) (by kernel_rfl) D1 (fun hHeld => ?_)
            refine wpAnyH_take (i := 0) (v := ?_) (by simp only [List.getElem?_toArray, List.getElem?_cons_succ, List.getElem?_cons_zero]; exact rfl) (by kernel_rfl) (by kernel_rfl) (by kernel_rfl) (by exact fun _ _ _ h => h) (Or.inl ⟨by rfl, ?_⟩) (by assumption) ?_
            rotate_left
            · intro w hSw
              try dsimp only at hSw
              go_simp
              try with_reducible rfl
            simp only [Act.put, List.setIfInBounds_toArray, List.set_cons_zero, List.set_cons_succ]
            refine wpAnyH_take (i := 1) (v := ?_) (by simp only [List.getElem?_toArray, List.getElem?_cons_succ, List.getElem?_cons_zero]; exact rfl) (by kernel_rfl) (by kernel_rfl) (by kernel_rfl) (by exact fun _ _ _ h => h) (Or.inl ⟨by rfl, ?_⟩) (by assumption) ?_
            rotate_left
            · intro w hSw
              try dsimp only at hSw
              go_simp
              try with_reducible rfl
            simp only [Act.put, List.setIfInBounds_toArray, List.set_cons_zero, List.set_cons_succ]
            refine wpAnyH_take (i := 2) (v := ?_) (by simp only [List.getElem?_toArray, List.getElem?_cons_succ, List.getElem?_cons_zero]; exact rfl) (by kernel_rfl) (by kernel_rfl) (by kernel_rfl) (by exact fun _ _ _ h => h) (Or.inl ⟨by rfl, ?_⟩) (by assumption) ?_
            rotate_left
            · intro w hSw
              try dsimp only at hSw
              go_simp
              try with_reducible rfl
            simp only [Act.put, List.setIfInBounds_toArray, List.set_cons_zero, List.set_cons_succ]
            refine wpAnyH_take (i := 3) (v := ?_) (by simp only [List.getElem?_toArray, List.getElem?_cons_succ, List.getElem?_cons_zero]; exact rfl) (by kernel_rfl) (by kernel_rfl) (by kernel_rfl) (by exact fun _ _ _ h => h) (Or.inl ⟨by rfl, ?_⟩) (by assumption) ?_
            rotate_left
            · intro w hSw
              try dsimp only at hSw
              go_simp
              try with_reducible rfl
            simp only [Act.put, List.setIfInBounds_toArray, List.set_cons_zero, List.set_cons_succ]
            refine wpAnyH_take (i := 4) (v := ?_) (by simp only [List.getElem?_toArray, List.getElem?_cons_succ, List.getElem?_cons_zero]; exact rfl) (by kernel_rfl) (by kernel_rfl) (by kernel_rfl) (by exact fun _ _ _ h => h) (Or.inl ⟨by rfl, ?_⟩) (by assumption) ?_
            rotate_left
            · intro w hSw
              try dsimp only at hSw
              go_simp
              try with_reducible rfl
            simp only [Act.put, List.setIfInBounds_toArray, List.set_cons_zero, List.set_cons_succ]
            refine wpAnyH_take (i := 5) (v := ?_) (by simp only [List.getElem?_toArray, List.getElem?_cons_succ, List.getElem?_cons_zero]; exact rfl) (by kernel_rfl) (by kernel_rfl) (by kernel_rfl) (by exact fun _ _ _ h => h) (Or.inl ⟨by rfl, ?_⟩) (by assumption) ?_
            rotate_left
            · intro w hSw
              try dsimp only at hSw
              go_simp
              try with_reducible rfl
            simp only [Act.put, List.setIfInBounds_toArray, List.set_cons_zero, List.set_cons_succ]
            refine wpAnyH_take (i := 6) (v := ?_) (by simp only [List.getElem?_toArray, List.getElem?_cons_succ, List.getElem?_cons_zero]; exact rfl) (by kernel_rfl) (by kernel_rfl) (by kernel_rfl) (by exact fun _ _ _ h => h) (Or.inl ⟨by rfl, ?_⟩) (by assumption) ?_
            rotate_left
            · intro w hSw
              try dsimp only at hSw
              go_simp
              try with_reducible rfl
            simp only [Act.put, List.setIfInBounds_toArray, List.set_cons_zero, List.set_cons_succ]
            refine wpAnyH_take (i := 7) (v := ?_) (by simp only [List.getElem?_toArray, List.getElem?_cons_succ, List.getElem?_cons_zero]; exact rfl) (by kernel_rfl) (by kernel_rfl) (by kernel_rfl) (by exact fun _ _ _ h => h) (Or.inl ⟨by rfl, ?_⟩) (by assumption) ?_
            rotate_left
            · intro w hSw
              try dsimp only at hSw
              go_simp
              try with_reducible rfl
            simp only [Act.put, List.setIfInBounds_toArray, List.set_cons_zero, List.set_cons_succ]
            refine wpAnyH_take (i := 8) (v := ?_) (by simp only [List.getElem?_toArray, List.getElem?_cons_succ, List.getElem?_cons_zero]; exact rfl) (by kernel_rfl) (by kernel_rfl) (by kernel_rfl) (by exact fun _ _ _ h => h) (Or.inl ⟨by rfl, ?_⟩) (by assumption) ?_
            rotate_left
            · intro w hSw
              try dsimp only at hSw
              go_simp
              try with_reducible rfl
            simp only [Act.put, List.setIfInBounds_toArray, List.set_cons_zero, List.set_cons_succ]
            refine wpAnyH_take (i := 9) (v := undef) (by simp only [List.getElem?_toArray, List.getElem?_cons_succ, List.getElem?_cons_zero]; exact rfl) (by kernel_rfl) (by kernel_rfl) (by kernel_rfl) (by exact fun _ _ _ h => h) (Or.inr ⟨by rfl, rfl⟩) (by assumption) ?_
            simp only [Act.put, List.setIfInBounds_toArray, List.set_cons_zero, List.set_cons_succ]
            refine wpAnyH_take (i := 10) (v := undef) (by simp only [List.getElem?_toArray, List.getElem?_cons_succ, List.getElem?_cons_zero]; exact rfl) (by kernel_rfl) (by kernel_rfl) (by kernel_rfl) (by exact fun _ _ _ h => h) (Or.inr ⟨by rfl, rfl⟩) (by assumption) ?_
            simp only [Act.put, List.setIfInBounds_toArray, List.set_cons_zero, List.set_cons_succ]
            refine wpAnyH_take (i := 11) (v := undef) (by simp only [List.getElem?_toArray, List.getElem?_cons_succ, List.getElem?_cons_zero]; exact rfl) (by kernel_rfl) (by kernel_rfl) (by kernel_rfl) (by exact fun _ _ _ h => h) (Or.inr ⟨by rfl, rfl⟩) (by assumption) ?_
            simp only [Act.put, List.setIfInBounds_toArray, List.set_cons_zero, List.set_cons_succ]
            refine wpAnyH_take (i := 12) (v := ?_) (by simp only [List.getElem?_toArray, List.getElem?_cons_succ, List.getElem?_cons_zero]; exact rfl) (by kernel_rfl) (by kernel_rfl) (by kernel_rfl) (by exact fun _ _ _ h => h) (Or.inl ⟨by rfl, ?_⟩) (by assumption) ?_
            rotate_left
            · intro w hSw
              try dsimp only at hSw
              go_simp
              try with_reducible rfl
            simp only [Act.put, List.setIfInBounds_toArray, List.set_cons_zero, List.set_cons_succ]
            refine wpAnyH_take (i := 13) (v := ?_) (by simp only [List.getElem?_toArray, List.getElem?_cons_succ, List.getElem?_cons_zero]; exact rfl) (by kernel_rfl) (by kernel_rfl) (by kernel_rfl) (by exact fun _ _ _ h => h) (Or.inl ⟨by rfl, ?_⟩) (by assumption) ?_
            rotate_left
            · intro w hSw
              try dsimp only at hSw
              go_simp
              try with_reducible rfl
            simp only [Act.put, List.setIfInBounds_toArray, List.set_cons_zero, List.set_cons_succ]
            refine wpAnyH_take (i := 14) (v := ?_) (by simp only [List.getElem?_toArray, List.getElem?_cons_succ, List.getElem?_cons_zero]; exact rfl) (by kernel_rfl) (by kernel_rfl) (by kernel_rfl) (by exact fun _ _ _ h => h) (Or.inl ⟨by rfl, ?_⟩) (by assumption) ?_
            rotate_left
            · intro w hSw
              try dsimp only at hSw
              go_simp
              try with_reducible rfl
            simp only [Act.put, List.setIfInBounds_toArray, List.set_cons_zero, List.set_cons_succ]
            refine wpAnyH_take (i := 15) (v := ?_) (by simp only [List.getElem?_toArray, List.getElem?_cons_succ, List.getElem?_cons_zero]; exact rfl) (by kernel_rfl) (by kernel_rfl) (by kernel_rfl) (by exact fun _ _ _ h => h) (Or.inl ⟨by rfl, ?_⟩) (by assumption) ?_
            rotate_left
            · intro w hSw
              try dsimp only at hSw
              go_simp
              try with_reducible rfl
            simp only [Act.put, List.setIfInBounds_toArray, List.set_cons_zero, List.set_cons_succ]
            refine wpAnyH_take (i := 17) (v := ?_) (by simp only [List.getElem?_toArray, List.getElem?_cons_succ, List.getElem?_cons_zero]; exact rfl) (by kernel_rfl) (by kernel_rfl) (by kernel_rfl) (by exact fun _ _ _ h => h) (Or.inl ⟨by rfl, ?_⟩) (by assumption) ?_
            rotate_left
            · intro w hSw
              try dsimp only at hSw
              go_simp
              try with_reducible rfl
            simp only [Act.put, List.setIfInBounds_toArray, List.set_cons_zero, List.set_cons_succ]
            refine wpAnyH_ready (rs := [16]) (by kernel_rfl) (by simp) ?_
            refine AllReadyH.cons (by simp only [List.getElem?_toArray, List.getElem?_cons_succ, List.getElem?_cons_zero]; exact rfl) (fun K hK => ?_) AllReadyH.nil
            go_simp
            (go_at_call 17; (with_reducible refine (KC3.out _ (by first | exact HX2.out | exact HX2.out.drew)).mono ?_); rintro e u5 ⟨A5, c5', rfl, hr5, f5⟩; have HX3 := Lib.hid (And.intro f5 hr5); clear hr5 f5)
            try go_wp2_with fail
            refine hK.out _ _ (yy.out _ HX3.out.1) (fun hHeld => ?_)
            clear hK K
            try simp only [Act.put, List.setIfInBounds_toArray, List.set_cons_zero, List.set_cons_succ]
            refine wpAnyH_ready (rs := [18]) (by kernel_rfl) (by simp) ?_
            refine AllReadyH.cons (by simp only [List.getElem?_toArray, List.getElem?_cons_succ, List.getElem?_cons_zero]; exact rfl) (fun K hK => ?_) AllReadyH.nil
            go_simp
            (go_at_call 28; (with_reducible refine (KI.out _ _ _ s3 HX3.out.2 ((HW.out _ _ _ _ (HU.out _ HX3.out.1).1).2.2.2.1) HOK3.out).mono ?_); rintro e u6 ⟨rfl, f6⟩; have HX4 : Hid (Frm (fun _ => False) w9 u6) := Lib.hid (HX3.out.1.trans f6 (fun _ _ h => h)); clear f6)
            try go_wp2_with fail
            refine hK.out _ _ (yy.out _ HX4.out) (fun hHeld => ?_)
            clear hK K
            try simp only [Act.put, List.setIfInBounds_toArray, List.set_cons_zero, List.set_cons_succ]
            refine wpAnyH_take (i := 19) (v := ?_) (by simp only [List.getElem?_toArray, List.getElem?_cons_succ, List.getElem?_cons_zero]; exact rfl) (by kernel_rfl) (by kernel_rfl) (by kernel_rfl) (by exact fun _ _ _ h => h) (Or.inl ⟨by rfl, ?_⟩) (by assumption) ?_
            rotate_left
            · intro w hSw
              try dsimp only at hSw
              go_simp
              try with_reducible rfl
            simp only [Act.put, List.setIfInBounds_toArray, List.set_cons_zero, List.set_cons_succ]
            refine wpAnyH_take (i := 20) (v := ?_) (by simp only [List.getElem?_toArray, List.getElem?_cons_succ, List.getElem?_cons_zero]; exact rfl) (by kernel_rfl) (by kernel_rfl) (by kernel_rfl) (by exact fun _ _ _ h => h) (Or.inl ⟨by rfl, ?_⟩) (by assumption) ?_
            rotate_left
            · intro w hSw
              try dsimp only at hSw
              go_simp
              try with_reducible rfl
            simp only [Act.put, List.setIfInBounds_toArray, List.set_cons_zero, List.set_cons_succ]
            refine wpAnyH_done (by kernel_rfl) ?_ _
            go_wp2
            all_goals
              go_meet
              case rel => exact ⟨rfl, HX4.out⟩
          · by_cases hk7 : o.kind = 7
            · have HC3 : Hid (E.crash fs fn = s3) := Lib.hid ((HCU.out.2.2.2.2 (Or.inr (Or.inr hk7)) fs fn).trans HSS.out.2.symm)
              have hkk := hk7
              have KC3 : Hid (∀ W, Frm (fun _ => False) w9 W → Calls Tryz.prog 17 #[.pointer (some ⟨b3, 0, none⟩), .agg #[.slice Af fs.length cf, .int .i64 fn]] W fun e w' => ∃ A c, e = .returned (.agg #[.slice A s3.length c]) ∧ ImgRd w' (.agg #[.slice A s3.length c]) s3 ∧ Frm (fun _ => False) w9 w') := fun W hW => by
                have := (HU.out W hW).1.crashC fs fn Af cf (fun j hj => by obtain ⟨ad, e, hc⟩ := HFS.out j hj; exact ⟨ad, e, frm_cell (HW.out _ _ _ _ (HU.out W hW).1).1 hc⟩) hfl
                rw [HC3.out] at this
                exact this.mono (by rintro e w' ⟨A, c, e1, e2, e3⟩; exact ⟨A, c, e1, e2.rd, hW.trans e3 (fun _ _ h => h)⟩)
              have yy : Hid (∀ W, Frm (fun _ => False) w9 W → W.cell? ⟨w6.heap.size, 0, none⟩ = some (.slice p6 s3.length c6) ∧ W.cell? ⟨w.heap.size + 1, 0, none⟩ = some (.int .i64 o.kind) ∧ W.cell? ⟨w.heap.size + 1 + 1, 0, none⟩ = some (.slice Af fs.length cf) ∧ W.cell? ⟨w.heap.size + 1 + 1, 1, none⟩ = some (.int .i64 fn)) := fun W f => ⟨(HU.out W f).2.2.2.1, (HU.out W f).2.2.2.2.1, (HU.out W f).2.2.2.2.2.1, (HU.out W f).2.2.2.2.2.2⟩
              have S1 := yy.out _ HX2.out
              have D1 := yy.out _ HX2.out.drew
              have HOK3 : Hid (ImgOk s3) := by
                have := (HU.out _ HX2.out).1.crashOk fs fn
                rw [HC3.out] at this
                exact Lib.hid this
              have HI3 := Lib.hid (HW.out _ _ _ _ (HU.out _ HX2.out).1).2.2.2.1
              have hki : o.kind = 7 := hkk
              rw [hki] at S1 D1 yy
              clear hki hkk hk7 S0 D0'
              go_region_held3 (fun w' => w'.cell? ⟨w6.heap.size, 0, none⟩ = some (.slice p6 s3.length c6) ∧ w'.cell? ⟨w.heap.size + 1, 0, none⟩ = some (.int .i64 7) ∧ w'.cell? ⟨w.heap.size + 1 + 1, 0, none⟩ = some (.slice Af fs.length cf) ∧ w'.cell? ⟨w.heap.size + 1 + 1, 1, none⟩ = some (.int .i64 fn))
                (first | exact S1 | exact D1 | exact yy.out _ HX3.out.1 | exact yy.out _ HX4.out | go_keep)
                (first
                  | (go_at_call 17; (with_reducible refine (KC3.out _ (by first | exact HX2.out | exact HX2.out.drew)).mono ?_); rintro e u5 ⟨A5, c5', rfl, hr5, f5⟩; have HX3 := Lib.hid (And.intro f5 hr5); clear hr5 f5)
                  | (go_at_call 28; (with_reducible refine (KI.out _ _ _ s3 HX3.out.2 ((HW.out _ _ _ _ (HU.out _ HX3.out.1).1).2.2.2.1) HOK3.out).mono ?_); rintro e u6 ⟨rfl, f6⟩; have HX4 : Hid (Frm (fun _ => False) w9 u6) := Lib.hid (HX3.out.1.trans f6 (fun _ _ h => h)); clear f6))
              all_goals
                go_wp2
                go_meet
                case rel => exact ⟨rfl, HX4.out⟩
            · have b3 : (o.kind == 3) = false := beq_eq_false_iff_ne.2 hk3
              have b4 : (o.kind == 4) = false := beq_eq_false_iff_ne.2 hk4
              have b7 : (o.kind == 7) = false := beq_eq_false_iff_ne.2 hk7
              have y1 := (HU.out _ HX2.out).2.2.2.2.1
              go_wp2
              go_quiet (fail)
              go_wp2
              go_meet
              case rel => exact ⟨rfl, HX2.out.drewN _⟩
      case rest =>
        obtain ⟨rfl, fc⟩ := hcut
        obtain ⟨nxc, _, xc5, xc6, xck, xcf, xcn⟩ := HU.out wc fc
        obtain ⟨s4, hs4⟩ : ∃ s4, s4 = E.crash fs fn := ⟨_, rfl⟩
        have zcf : ∀ W, Frm (fun _ => False) w W → ∀ j (hj : j < fs.length), ∃ ad, Af = some ad ∧ W.cell? (ad.add j) = some (.int .i64 fs[j]) := fun W hW j hj => by obtain ⟨ad, e, hc⟩ := HFS.out j hj; exact ⟨ad, e, frm_cell hW hc⟩
        have KC5 : Hid (Calls Tryz.prog 17 #[.pointer (some ⟨b3, 0, none⟩), .agg #[.slice Af fs.length cf, .int .i64 fn]] wc fun e w' => ∃ A c, e = .returned (.agg #[.slice A s4.length c]) ∧ ImgAt w' wc.heap.size (.agg #[.slice A s4.length c]) s4 ∧ Frm (fun _ => False) wc w') := by
          have := nxc.crashC fs fn Af cf (zcf _ (HW.out _ _ _ _ nxc).1) hfl
          rw [← hs4] at this
          exact Lib.hid this
        have HS4 := Lib.hid hs4
        have HNC := Lib.hid nxc
        clear hs4 nxc S0 D0'
        go_upto_region 18 with (first
          | (go_at_call 17; refine KC5.out.mono ?_; rintro e w10 ⟨p7, c7, rfl, hi7, f7⟩; have hb6 := (HW.out _ _ _ _ (HU.out _ (fc.trans f7 (fun _ _ h => h))).1).2.2.2.2.2.1; have x6 : w10.cell? ⟨w6.heap.size, 0, none⟩ = some (.slice p6 s3.length c6) := cell_of hb6 rfl; have x6f : w10.frozen? ⟨w6.heap.size, 0, none⟩ = false := frozen_of hb6; have H7 := Lib.hid (And.intro hi7 (And.intro f7 hb6)); clear hi7 f7 hb6))
        obtain ⟨v1, hv1⟩ : ∃ v1, v1 = w10.setCell ⟨w6.heap.size, 0, none⟩ (.slice p7 s4.length c7) := ⟨_, rfl⟩
        rw [← hv1]
        obtain ⟨lab1, L0, g1, g2⟩ := HNC.out
        have f10 : Frm (fun k => k = w6.heap.size) w10 v1 := by rw [hv1]; exact (Frm.refl _ _).setCell _ _ (fun _ => rfl)
        have bv : v1.heap[w6.heap.size]? = some (.cells #[.slice p7 s4.length c7] 36 (0, 0)) := by rw [hv1]; exact blk_set H7.out.2.2
        have hsz : B ≤ w3.heap.size ∧ w3.heap.size ≤ w6.heap.size ∧ w6.heap.size < W6.heap.size ∧ (∀ k, Ft lab3 k → k < w3.heap.size) := by exact HSZ.out
        have hlw : ∀ k, Ft lab1 k → k < wc.heap.size := L0.lab_lt
        have hcs := g1.size
        have hn6 : lab1 w6.heap.size = none := by
          cases hx : lab1 w6.heap.size with
          | none => rfl
          | some y =>
            have h1 := g2 _ hsz.2.2.1 (by unfold Ft; rw [hx]; rfl)
            have h2 := hsz.2.2.2 _ h1
            omega
        have L1 : Live B v1 b3 lab1 eb l7 (n + 1) (m + o.data.length) E := (L0.frm H7.out.2.1).off_ f10 (fun k hk => by subst hk; exact ⟨hn6, by omega⟩)
        have hG : ∀ W n' m' D', Next B v1 lab1 W b3 eb l7 n' m' D' → Frm (fun k => Ft lab3 k ∨ k = w6.heap.size) W6 W ∧ Frm (fun k => Ft lab1 k ∨ k = w6.heap.size) w10 W := by
          intro W n' m' D' h
          have h1 := h.frmF
          have h2 : Frm (fun k => Ft lab1 k ∨ k = w6.heap.size) w10 W := (f10.mono (fun k _ h => .inr h)).trans h1 (fun k hk hl => .inl hl)
          refine ⟨((g1.mono (fun k _ h => .inl h)).trans H7.out.2.1 (fun _ _ h => h.elim)).trans h2 (fun k hk hl => ?_), h2⟩
          rcases hl with hl | hl
          · exact .inl (g2 k hk hl)
          · exact .inr hl
        have HV : Hid (∀ W n' m' D', Next B v1 lab1 W b3 eb l7 n' m' D' → Frm (fun _ => False) w W ∧ ImgRd W (.agg #[.slice p5 s2.length c5]) s2 ∧ ImgRd W (.agg #[.slice p7 s4.length c7]) s4 ∧ W.cell? ⟨w5.heap.size, 0, none⟩ = some (.slice p5 s2.length c5) ∧ W.cell? ⟨w6.heap.size, 0, none⟩ = some (.slice p7 s4.length c7) ∧ W.cell? ⟨w.heap.size + 1 + 1, 0, none⟩ = some (.slice Af fs.length cf) ∧ W.cell? ⟨w.heap.size + 1 + 1, 1, none⟩ = some (.int .i64 fn)) := by
          intro W n' m' D' h
          obtain ⟨h1, h2⟩ := hG W n' m' D' h
          obtain ⟨k1, k2, k3, k4⟩ := HW2.out W h1
          refine ⟨k1, k2, (H7.out.1.keep2 h2 (fun k hk hl => ?_)).rd, cell_of k3 rfl, cell_of ((h.frmF.block _ (Da.blk_lt bv) (fun hl => ?_)).trans bv) rfl, cell_of k4 rfl, cell_of k4 rfl⟩
          · rcases hl with hl | hl
            · exact hlw k hl
            · omega
          · unfold Ft at hl; rw [hn6] at hl; cases hl
        have hz : 1 ≤ o.kind := by have := HQ.out.2.2.2.2.2.1; omega
        have hoff : E.off = true := HCU.out.2.1
        have HE2 := Lib.hid (And.intro hoff (And.intro HCU.out.2.2.1 (And.intro HES.out (And.intro L1.fit (And.intro L1.sz L1.inv)))))
        have HNX : Hid (Next B v1 lab1 v1 b3 eb l7 (n + 1) (m + o.data.length) E) := Lib.hid L1.self
        have HB := Lib.hid (And.intro hsz.1 hcs)
        have hnm := HL.out.2.2.2.2.2.2.2.2.2
        have hfit : DFit (n + 1 + 1) (m + o.data.length) := .small (by omega) (by omega)
        have hBB : w.heap.size ≤ B := by have h1 := HL.out.2.2.2.2.2.2.1; have h2 := HL.out.2.2.2.2.2.2.2.1; omega
        have hBW : ∀ W n' m' D', Next B v1 lab1 W b3 eb l7 n' m' D' → B ≤ W.heap.size := fun W n' m' D' h => by have h1 := (hG W n' m' D' h).1.size; omega
        have HH := Lib.hid (And.intro hfit (And.intro hBB hBW))
        clear HU HW HW2 HCU HES HQ HL HNC HSS KC5 KOP2 KDN KSF3 HI2 zz x6 x6f L0 g1 g2 f10 bv hsz hlw hcs hn6 L1 hG hz hoff hnm hfit hBB hBW hv1 H7 fc xc5 xc6 xck xcf xcn HSZ zcf
        go_wp2
        go_loopw [16] (fun v wr => ∃ j, v = .int .i64 (j : Nat) ∧ j ≤ ms.length ∧ j ≤ 4096 ∧ Next B v1 lab1 wr b3 eb l7 (n + 1) (m + o.data.length) E) (fun v _ => 4096 - (intOf v).toNat)
        case atStart => exact ⟨0, rfl, Nat.zero_le _, Nat.zero_le _, HNX.out⟩
        case round =>
          obtain ⟨j, rfl, hj, hj2, hnx⟩ := hrel
          have HN := Lib.hid hnx
          clear hnx
          by_cases hlt : j < ms.length ∧ j < 4096
          · obtain ⟨hlt, hlt2⟩ := hlt
            obtain ⟨x, hx⟩ : ∃ x, ms[j]? = some x := ⟨_, List.getElem?_eq_getElem hlt⟩
            have hv := HV.out _ _ _ _ HN.out
            obtain ⟨ad, B1, d1, B2, d2, B3, d3, rfl, k0, k1, k2, k3, k4, k5, k6, k7, k8, hin, _⟩ := op_cells hv.1 HMS.out.1 hx
            have hxok := HMS.out.2 x (List.mem_of_getElem? hx)
            have hjc : j < cm := by omega
            obtain ⟨WA, hWA⟩ : ∃ WA, WA = wr.alloc (.cells #[.int .i64 x.kind, .string x.name, .string x.to_, .slice B1 x.data.length d1, .int .i64 x.n, .slice B2 x.fails.length d2, .int .i64 x.cut, .slice B3 x.fs.length d3, .int .i64 x.fn] 55) := ⟨_, rfl⟩
            obtain ⟨lab2, h1, h2⟩ := HN.out.then_
            have fA : Frm (fun _ => False) wr WA := by rw [hWA]; exact (Frm.refl _ _).alloc _
            have qA : WA.heap[wr.heap.size]? = some (.cells #[.int .i64 x.kind, .string x.name, .string x.to_, .slice B1 x.data.length d1, .int .i64 x.n, .slice B2 x.fails.length d2, .int .i64 x.cut, .slice B3 x.fs.length d3, .int .i64 x.fn] 55 (0, 0)) := by rw [hWA]; exact blk_alloc
            have hBr := HH.out.2.2 _ _ _ _ HN.out
            have hwA : Frm (fun _ => False) w WA := hv.1.trans fA (fun _ _ h => h)
            obtain ⟨an2, han2⟩ : ∃ an2, an2 = (E.ask x).1 := ⟨_, rfl⟩
            have K0 := (h1.frm fA).self.askOff HE2.out.1 ((H15.out.frm hwA (fun _ h => h.elim)).up HH.out.2.1) (by have := fA.size; omega) (hwA.mono (fun _ _ h => h.elim)) HH.out.2.1 x _ hin hxok HH.out.1
            rw [← han2] at K0
            have KA : Hid (Calls Tryz.prog 25 #[.pointer (some ⟨b3, 0, none⟩), .agg #[.int .i64 x.kind, .string x.name, .string x.to_, .slice B1 x.data.length d1, .int .i64 x.n, .slice B2 x.fails.length d2, .int .i64 x.cut, .slice B3 x.fs.length d3, .int .i64 x.fn]] WA fun e w' => ∃ g1 g2 g3 g4 g5 g6 g7 g8, e = .returned (.agg #[.int .i64 an2.e, .slice g1 an2.data.length g2, .slice g3 an2.bad.length g4, .slice g5 an2.strs.length g6, .slice g7 an2.img.length g8, .int .i64 an2.a, .int .i64 an2.b, .bool an2.yes]) ∧ w'.cell? ⟨wr.heap.size, 0, none⟩ = some (.int .i64 x.kind) ∧ Next B v1 lab1 w' b3 eb l7 (n + 1) (m + o.data.length) E) := by
              refine Lib.hid (K0.mono ?_)
              rintro e w' ⟨av, rfl, ⟨dv, bv, sv, iv, rfl, hans⟩, h8⟩
              obtain ⟨g1, g2, rfl⟩ := own_form hans.data
              obtain ⟨g3, g4, rfl⟩ := own_form hans.bad
              obtain ⟨g5, g6, rfl⟩ := own_form hans.strs
              obtain ⟨g7, g8, rfl⟩ := Kd.R_slice hans.img
              refine ⟨g1, g2, g3, g4, g5, g6, g7, g8, rfl, cell_of ((h8.frmF.block _ (Da.blk_lt qA) (fun hl => ?_)).trans qA) rfl, ?_⟩
              · have := h1.lab_lt _ hl; omega
              · obtain ⟨l9, m1, m2, m3⟩ := h8
                exact h2 ⟨l9, m1, (fA.mono (fun _ _ h => h.elim)).trans m2 (fun _ _ h => h), fun k hk hl => m3 k (Nat.lt_of_lt_of_le hk fA.size) hl⟩
            have HAN : Hid (1 ≤ x.kind → x.kind ≤ 9 → an2.e = 7) := by rw [han2]; exact Lib.hid (ask_dark HE2.out.1 x).2
            have KPX := Lib.hid (fun W => operation_calls W x.kind)
            clear hv hin hxok fA qA hBr hwA han2 K0 h1 h2 hx
            by_cases hk16 : x.kind = 16
            · rw [hk16] at k0
              clear KA KPX HAN hk16 hWA
              go_wp2
              exact ⟨⟨j + 1, by go_num, by omega, by omega, HN.out.on (by repeat (first | (with_reducible assumption) | (with_reducible exact Frm.refl _ _) | (with_reducible apply Frm.drewN) | (with_reducible apply Frm.drew) | (with_reducible apply Frm.alloc) | (with_reducible refine Frm.setCell ?_ _ _ (fun h => absurd h (by first | (simp; done) | (simp; omega))))))⟩, by simp [intOf]; omega⟩
            · have hb16 : (x.kind == 16) = false := beq_eq_false_iff_ne.2 hk16
              clear hk16
              go_upto_region 24 with (first
                | (go_at_call 25; rw [← hWA]; refine KA.out.mono ?_; rintro e w12 ⟨g1, g2, g3, g4, g5, g6, g7, g8, rfl, y0, hx12⟩; have HX := Lib.hid (And.intro hx12 y0); clear hx12 y0))
              obtain ⟨u12, hu12⟩ : ∃ u12, u12 = w12.alloc (.cells #[.int .i64 an2.e, .slice g1 an2.data.length g2, .slice g3 an2.bad.length g4, .slice g5 an2.strs.length g6, .slice g7 an2.img.length g8, .int .i64 an2.a, .int .i64 an2.b, .bool an2.yes] 59) := ⟨_, rfl⟩
              rw [← hu12]
              have y0 : u12.cell? ⟨wr.heap.size, 0, none⟩ = some (.int .i64 x.kind) := by rw [hu12]; exact cell_alloc HX.out.2
              have z0 : u12.cell? ⟨w12.heap.size, 0, none⟩ = some (.int .i64 an2.e) := by rw [hu12]; exact cell_of blk_alloc rfl
              have HX2 : Hid (Next B v1 lab1 u12 b3 eb l7 (n + 1) (m + o.data.length) E) := by rw [hu12]; exact Lib.hid (HX.out.1.on ((Frm.refl _ _).alloc _))
              clear hu12 KA HX hWA k0 k1 k2 k3 k4 k5 k6 k7 k8
              by_cases ho17 : (decide (1 ≤ x.kind) && decide (x.kind ≤ 7)) = true
              · have h17 : 1 ≤ x.kind ∧ x.kind ≤ 7 := by simpa using ho17
                have he7 := HAN.out h17.1 (by omega)
                rw [ho17] at KPX
                rw [he7] at z0
                clear HAN h17 he7 ho17
                go_wp2_with (first
                  | (go_at_call 41; refine (KPX.out _).mono ?_; rintro e w13 ⟨rfl, rfl⟩))
                exact ⟨⟨j + 1, by go_num, by omega, by omega, HX2.out.on (by repeat (first | (with_reducible assumption) | (with_reducible exact Frm.refl _ _) | (with_reducible apply Frm.drewN) | (with_reducible apply Frm.drew) | (with_reducible apply Frm.alloc) | (with_reducible refine Frm.setCell ?_ _ _ (fun h => absurd h (by first | (simp; done) | (simp; omega))))))⟩, by simp [intOf]; omega⟩
              · have hop := Bool.eq_false_iff.2 ho17
                rw [hop] at KPX
                clear hop ho17
                by_cases hk8 : x.kind = 8
                · have he7 := HAN.out (by omega) (by omega)
                  rw [he7] at z0
                  rw [hk8] at y0 KPX
                  clear HAN he7
                  have HK8 := Lib.hid hk8
                  clear hk8
                  go_wp2_with (first
                    | (go_at_call 41; refine (KPX.out _).mono ?_; rintro e w13 ⟨rfl, rfl⟩))
                  exact ⟨⟨j + 1, by go_num, by omega, by omega, HX2.out.on (by repeat (first | (with_reducible assumption) | (with_reducible exact Frm.refl _ _) | (with_reducible apply Frm.drewN) | (with_reducible apply Frm.drew) | (with_reducible apply Frm.alloc) | (with_reducible refine Frm.setCell ?_ _ _ (fun h => absurd h (by first | (simp; done) | (simp; omega))))))⟩, by simp [intOf]; omega⟩
                · by_cases hk9 : x.kind = 9
                  · have he7 := HAN.out (by omega) (by omega)
                    rw [he7] at z0
                    rw [hk9] at y0 KPX
                    clear HAN he7 hk8
                    have HK9 := Lib.hid hk9
                    clear hk9
                    go_wp2_with (first
                      | (go_at_call 41; refine (KPX.out _).mono ?_; rintro e w13 ⟨rfl, rfl⟩))
                    exact ⟨⟨j + 1, by go_num, by omega, by omega, HX2.out.on (by repeat (first | (with_reducible assumption) | (with_reducible exact Frm.refl _ _) | (with_reducible apply Frm.drewN) | (with_reducible apply Frm.drew) | (with_reducible apply Frm.alloc) | (with_reducible refine Frm.setCell ?_ _ _ (fun h => absurd h (by first | (simp; done) | (simp; omega))))))⟩, by simp [intOf]; omega⟩
                  · have hb8 : (x.kind == 8) = false := beq_eq_false_iff_ne.2 hk8
                    have hb9 : (x.kind == 9) = false := beq_eq_false_iff_ne.2 hk9
                    clear HAN hk8 hk9
                    go_wp2_with (first
                      | (go_at_call 41; refine (KPX.out _).mono ?_; rintro e w13 ⟨rfl, rfl⟩))
                    exact ⟨⟨j + 1, by go_num, by omega, by omega, HX2.out.on (by repeat (first | (with_reducible assumption) | (with_reducible exact Frm.refl _ _) | (with_reducible apply Frm.drewN) | (with_reducible apply Frm.drew) | (with_reducible apply Frm.alloc) | (with_reducible refine Frm.setCell ?_ _ _ (fun h => absurd h (by first | (simp; done) | (simp; omega))))))⟩, by simp [intOf]; omega⟩
          · go_upto_region 19 with (fail)
            go_cut [102] from 95 to 132 (fun t wx => t = .bool false ∧ wx = wr)
            case first =>
              by_cases hl2 : j < ms.length
              · obtain rfl : j = 4096 := by omega
                go_wp2
                go_meet
                case rel => exact ⟨rfl, rfl⟩
              · obtain rfl : j = ms.length := by omega
                go_wp2
                go_meet
                case rel => exact ⟨rfl, rfl⟩
            case rest =>
              obtain ⟨rfl, rfl⟩ := hcut
              have hv := HV.out _ _ _ _ HN.out
              have hnx := HN.out
              have hsn : E.seenImg = [] := by unfold Disk.seenImg; rw [if_pos HE2.out.1]
              have zcf : ∀ W, Frm (fun _ => False) w W → ∀ j (hj : j < fs.length), ∃ ad, Af = some ad ∧ W.cell? (ad.add j) = some (.int .i64 fs[j]) := fun W hW j hj => by obtain ⟨ad, e, hc⟩ := HFS.out j hj; exact ⟨ad, e, frm_cell hW hc⟩
              have KS2 : Hid (∀ W, Frm (fun _ => False) wc W → Calls Tryz.prog 29 #[.pointer (some ⟨b3, 0, none⟩)] W fun e w' => ∃ A c, e = .returned (.agg #[.slice A 0 c]) ∧ Frm (fun _ => False) wc w') := fun W hW => by
                have := (hnx.on hW).seenC
                rw [hsn] at this
                exact this.mono (by rintro e w' ⟨A, c, e1, e2, e3⟩; exact ⟨A, c, e1, hW.trans e3 (fun _ _ h => h)⟩)
              have KSF : Hid (∀ W, Frm (fun _ => False) wc W → Calls Tryz.prog 31 #[.pointer (some ⟨b3, 0, none⟩)] W fun e w' => ∃ A c, e = .returned (.agg #[.slice A s2.length c]) ∧ ImgRd w' (.agg #[.slice A s2.length c]) s2 ∧ Frm (fun _ => False) wc w') := fun W hW => by
                have := (hnx.on hW).safeC
                rw [HE2.out.2.2.1] at this
                exact this.mono (by rintro e w' ⟨A, c, e1, e2, e3⟩; exact ⟨A, c, e1, e2.rd, hW.trans e3 (fun _ _ h => h)⟩)
              have KC : Hid (∀ W, Frm (fun _ => False) wc W → Calls Tryz.prog 17 #[.pointer (some ⟨b3, 0, none⟩), .agg #[.slice Af fs.length cf, .int .i64 fn]] W fun e w' => ∃ A c, e = .returned (.agg #[.slice A s4.length c]) ∧ ImgRd w' (.agg #[.slice A s4.length c]) s4 ∧ Frm (fun _ => False) wc w') := fun W hW => by
                have := (hnx.on hW).crashC fs fn Af cf (zcf _ (hv.1.trans hW (fun _ _ h => h))) hfl
                rw [← HS4.out] at this
                exact this.mono (by rintro e w' ⟨A, c, e1, e2, e3⟩; exact ⟨A, c, e1, e2.rd, hW.trans e3 (fun _ _ h => h)⟩)
              have KOP : Hid (∀ W, Frm (fun _ => False) wc W → Calls Tryz.prog 33 #[.pointer (some ⟨b3, 0, none⟩)] W fun e w' => e = .returned (.int .i64 ((D.count : Int) + 1)) ∧ w' = W) := fun W f => by
                have := (hnx.on f).opsC
                rw [HE2.out.2.1] at this
                exact this
              have KDN : Hid (∀ W, Frm (fun _ => False) wc W → Calls Tryz.prog 35 #[.pointer (some ⟨b3, 0, none⟩)] W fun e w' => e = .returned (.bool true) ∧ w' = W) := fun W f => by
                have := (hnx.on f).downC
                rw [HE2.out.1] at this
                exact this
              have zz : Hid (∀ W, Frm (fun _ => False) wc W → W.cell? ⟨w5.heap.size, 0, none⟩ = some (.slice p5 s2.length c5) ∧ W.cell? ⟨w6.heap.size, 0, none⟩ = some (.slice p7 s4.length c7) ∧ W.cell? ⟨w.heap.size + 1 + 1, 0, none⟩ = some (.slice Af fs.length cf) ∧ W.cell? ⟨w.heap.size + 1 + 1, 1, none⟩ = some (.int .i64 fn)) := fun W hW => by
                obtain ⟨_, _, _, h4⟩ := HV.out _ _ _ _ (hnx.on hW)
                exact h4
              have HI2 := Lib.hid hv.2.1
              have HI4 := Lib.hid hv.2.2.1
              have HFR := Lib.hid hv.1
              have HOK4 : Hid (ImgOk s4) := by
                have := hnx.crashOk fs fn
                rw [← HS4.out] at this
                exact Lib.hid this
              have hfld : ∀ (A : Option Addr) (c : Nat) (W : World), (Instr.field 36 (.agg #[.slice A 0 c]) 0).run Tryz.prog W = .ok (.slice A 0 c) W := by intro A c W; rfl
              have S0 := zz.out wc (Frm.refl _ _)
              have D0 := zz.out wc.drew (Frm.refl _ _).drew
              clear hv hnx hsn zcf HN HV HNX HB HH HE2 HS4 HMS H15 HFS
              go_upto_region 26 with (fail)
              go_region_held3 (fun w' => w'.cell? ⟨w5.heap.size, 0, none⟩ = some (.slice p5 s2.length c5) ∧ w'.cell? ⟨w6.heap.size, 0, none⟩ = some (.slice p7 s4.length c7) ∧ w'.cell? ⟨w.heap.size + 1 + 1, 0, none⟩ = some (.slice Af fs.length cf) ∧ w'.cell? ⟨w.heap.size + 1 + 1, 1, none⟩ = some (.int .i64 fn))
                (first | exact S0 | exact D0 | exact zz.out _ HX1.out | exact zz.out _ HX3.out.1 | exact zz.out _ HX4.out | exact zz.out _ HX5.out.1 | exact zz.out _ HX6.out | go_keep)
                (first
                  | (go_at_call 29; (with_reducible refine (KS2.out _ (by first | exact Frm.refl _ _ | exact (Frm.refl _ _).drew)).mono ?_); rintro e u1 ⟨A1', c1', rfl, f1⟩; have HX1 : Hid (Frm (fun _ => False) wc u1) := Lib.hid f1; clear f1)
                  | (go_at_call 35; (with_reducible refine (KDN.out _ HX1.out).mono ?_); rintro e u0 ⟨rfl, rfl⟩)
                  | (go_at_call 33; (with_reducible refine (KOP.out _ HX1.out).mono ?_); rintro e u0 ⟨rfl, rfl⟩)
                  | (go_at_call 17; (with_reducible refine (KC.out _ HX1.out).mono ?_); rintro e u3 ⟨A3', c3', rfl, hr3, f3⟩; have HX3 := Lib.hid (And.intro f3 hr3); clear hr3 f3)
                  | (go_at_call 28; (with_reducible refine (KI.out _ _ _ s4 HX3.out.2 (HI4.out.frm HX3.out.1) HOK4.out).mono ?_); rintro e u4 ⟨rfl, f4⟩; have HX4 : Hid (Frm (fun _ => False) wc u4) := Lib.hid (HX3.out.1.trans f4 (fun _ _ h => h)); clear f4)
                  | (go_at_call 31; (with_reducible refine (KSF.out _ HX4.out).mono ?_); rintro e u5 ⟨A5', c5', rfl, hr5, f5⟩; have HX5 := Lib.hid (And.intro f5 hr5); clear hr5 f5)
                  | (go_at_call 28; (with_reducible refine (KI.out _ _ _ s2 HX5.out.2 (HI2.out.frm HX5.out.1) HOK2.out).mono ?_); rintro e u6 ⟨rfl, f6⟩; have HX6 : Hid (Frm (fun _ => False) wc u6) := Lib.hid (HX5.out.1.trans f6 (fun _ _ h => h)); clear f6))
              all_goals
                go_wp2
                go_ret
                exact ⟨rfl, HFR.out.trans HX6.out (fun _ _ h => h)⟩
  · rw [Bool.eq_false_iff.2 hko] at KOP
    go_wp2_with (first | (go_at_call 41; refine (KOP.out _).mono ?_; rintro e w4 ⟨rfl, rfl⟩))
    go_ret
    exact ⟨rfl, HL.out.2.1⟩
end Go.Proofs.YtglhedahannjiaaGreatDoor.Dw
