/- A part of the proof of segmentMemoryUpto_holds: Ej. No condition. -/
import Derived.Test.YtkmmlfphcfcbgaaGreatDoorC13

/- Walks: fated. -/
namespace Go.Proofs.YtkmmlfphcfcbgaaGreatDoor.Dw
open Go.RowKit Go.ChangeMaps Go.Proofs.YtkmmlfphcfcbgaaGreatDoor.Mp Go.Proofs.YtkmmlfphcfcbgaaGreatDoor.Dm Go.Proofs.YtkmmlfphcfcbgaaGreatDoor.Da
set_option linter.unusedVariables false
set_option linter.unusedSimpArgs false
set_option linter.unusedSectionVars false
/-- In fated's loop: sb: the side's block, rs: the result's, m: its map, lv: the list of the sectors. -/
structure FatedInv (w wr : World) (s : Side) (dv lv : Value) (ks : List Int) (rs sb m : Nat) : Prop where
  frm : Frm (fun _ => False) w wr
  blk : wr.heap[sb]? = some (.cells #[dv, .map (some m)] 142 (0, 0))
  res : wr.heap[rs]? = some (.cells #[.slice none 0 0, .map none] 142 (0, 0))
  data : wr.ownsRow w.heap.size 5 1 dv s.data.length (u8s s.data)
  bad : SetAt wr m s.bad
  list : wr.ownsRow w.heap.size 3 1 lv ks.length (i64s ks)
section
variable {w wr : World} {s : Side} {dv lv : Value} {ks : List Int} {rs sb m : Nat}
theorem FatedInv.mne (h : FatedInv w wr s dv lv ks rs sb m) : m ≠ sb ∧ m ≠ rs ∧ some m ≠ dv.ownBlock ∧ some m ≠ lv.ownBlock := by
  obtain ⟨k, ⟨es, cl, hh, _⟩, _⟩ := h.bad
  refine ⟨?_, ?_, ?_, ?_⟩
  · rintro rfl; have := h.blk; rw [hh] at this; cases this
  · rintro rfl; have := h.res; rw [hh] at this; cases this
  · intro e
    rcases h.data.2 with ⟨h1, _⟩ | ⟨g, _, _, hv, _, hb, _⟩
    · rw [h1] at e; simp [Value.ownBlock] at e
    · rw [hv] at e
      have : m = g := by simpa [Value.ownBlock] using e
      subst this; rw [hh] at hb; cases hb
  · intro e
    rcases h.list.2 with ⟨h1, _⟩ | ⟨g, _, _, hv, _, hb, _⟩
    · rw [h1] at e; simp [Value.ownBlock] at e
    · rw [hv] at e
      have : m = g := by simpa [Value.ownBlock] using e
      subst this; rw [hh] at hb; cases hb
theorem FatedInv.mlt (h : FatedInv w wr s dv lv ks rs sb m) : m < wr.heap.size := by
  obtain ⟨k, hm, _⟩ := h.bad; exact hm.lt
theorem FatedInv.grown (h : FatedInv w wr s dv lv ks rs sb m) {w2 : World} {d : List Int} (hg : wr.grownBy w2 dv.ownBlock) (hr : w2.ownsRow w.heap.size 5 1 dv d.length (u8s d)) : FatedInv w w2 ⟨d, s.bad⟩ dv lv ks rs sb m :=
  ⟨h.frm.grown hg (fun k e hk => by have := own_low h.data e; omega), (hg.block sb (blk_lt h.blk) (own_ne_cells h.data h.blk (by decide))).trans h.blk, (hg.block rs (blk_lt h.res) (own_ne_cells h.data h.res (by decide))).trans h.res, hr,
    h.bad.same (hg.block m h.mlt h.mne.2.2.1), own_grown h.list hg (own_ne_own h.list h.data (by decide))⟩
theorem FatedInv.store (h : FatedInv w wr s dv lv ks rs sb m) {w2 : World} {d : List Int} {dv2 : Value} (hw : w.heap.size ≤ sb) (hsr : rs ≠ sb) (hg : wr.grownBy w2 dv.ownBlock) (hr : w2.ownsRow w.heap.size 5 1 dv2 d.length (u8s d)) :
    FatedInv w (w2.setCell ⟨sb, 0, none⟩ dv2) ⟨d, s.bad⟩ dv2 lv ks rs sb m := by
  have hb := (hg.block sb (blk_lt h.blk) (own_ne_cells h.data h.blk (by decide))).trans h.blk
  have hs := (hg.block rs (blk_lt h.res) (own_ne_cells h.data h.res (by decide))).trans h.res
  have hl := own_grown h.list hg (own_ne_own h.list h.data (by decide))
  refine ⟨Frm.setCell (h.frm.grown hg (fun k e hk => by have := own_low h.data e; omega)) _ _ (fun e => absurd e (by simp; omega)), ?_, ?_, ?_, ?_, ?_⟩
  · rw [blk_set hb]; simp
  · rw [blk_set_ne hsr]; exact hs
  · refine ownsRow.same hr fun g hg2 => ?_
    rw [blk_set_ne (fun e => own_ne_cells hr hb (by decide) (by rw [← e]; exact hg2.symm))]
  · exact h.bad.same ((blk_set_ne h.mne.1).trans (hg.block m h.mlt h.mne.2.2.1))
  · refine ownsRow.same hl fun g hg2 => ?_
    rw [blk_set_ne (fun e => own_ne_cells hl hb (by decide) (by rw [← e]; exact hg2.symm))]
theorem FatedInv.drew (h : FatedInv w wr s dv lv ks rs sb m) : FatedInv w wr.drew s dv lv ks rs sb m :=
  ⟨h.frm.drew, h.blk, h.res, h.data, h.bad.same rfl, h.list⟩
theorem FatedInv.turned (h : FatedInv w wr s dv lv ks rs sb m) {w2 : World} {b : Nat → Bool} (hw : w.heap.size ≤ m) (hg : wr.grownBy w2 (some m)) (hS : SetAt w2 m b) : FatedInv w w2 ⟨s.data, b⟩ dv lv ks rs sb m :=
  ⟨h.frm.grown hg (fun k e hk => by have := Option.some.inj e; omega), (hg.block sb (blk_lt h.blk) (fun e => h.mne.1 (Option.some.inj e).symm)).trans h.blk, (hg.block rs (blk_lt h.res) (fun e => h.mne.2.1 (Option.some.inj e).symm)).trans h.res,
    own_grown h.data hg (fun g e => by rw [← e]; exact fun e2 => h.mne.2.2.1 e2.symm), hS, own_grown h.list hg (fun g e => by rw [← e]; exact fun e2 => h.mne.2.2.2 e2.symm)⟩
end
set_option maxHeartbeats 2000000 in
set_option maxRecDepth 100000 in
theorem fated_calls {w : World} {lab : Nat → Option Lb} {i : Nat} {a : FAdr} {f : FileS} (F : FileAt w lab i a f) (hlab : ∀ k p, lab k = some p → k < w.heap.size) (hok : FOK f) (hlen : f.seen.length ≤ 4398046511104) (fates : List Int) (hfl : fates.length = (waitList f).length)
    (b off c : Nat) (hc : fates.length ≤ c) (hcells : ∀ j (h : j < fates.length), w.cell? ⟨b, off + j, none⟩ = some (.int .i64 fates[j])) :
    Calls Tryz.prog 90 #[.pointer (some ⟨a.fb, 0, none⟩), .slice (some ⟨b, off, none⟩) fates.length c] w fun e w' => ∃ dv m', e = .returned (.agg #[dv, .map (some m')]) ∧
      w'.ownsRow w.heap.size 5 1 dv (f.fated fates).data.length (u8s (f.fated fates).data) ∧ SetAt w' m' (f.fated fates).bad ∧ w.heap.size ≤ m' ∧ m' < w'.heap.size ∧ Frm (fun _ => False) w w' := by
  have hml : sectors f.seen.length ≤ 4398046511104 := by unfold sectors; omega
  have fbl := blk_lt F.blk
  have x3 : w.cell? ⟨a.fb, 3, none⟩ = some a.ad := cell_of F.blk rfl
  have x4 : w.cell? ⟨a.fb, 4, none⟩ = some (.map (some a.ab)) := cell_of F.blk rfl
  have hnum : numbers f.waits (sectors f.seen.length) = (waitList f).map fun k : Nat => (k : Int) := rfl
  have KEY1 : Hid (∀ W, Frm (fun _ => False) w W → Calls Tryz.prog 79 #[.agg #[a.ad, .map (some a.ab)]] W fun e w' => ∃ v' m', e = .returned (.agg #[v', .map (some m')]) ∧ w'.ownsRow W.heap.size 5 1 v' f.safe.length (u8s f.safe) ∧ SetAt w' m' f.badSafe ∧ Below W.heap.size W w' ∧ W.heap.size ≤ m' ∧ m' < w'.heap.size ∧ v'.ownBlock ≠ some m') := by
    intro W hW
    have FW : FileAt W lab i a f := F.same (fun k p hl _ => hW.block k (hlab k p hl) id)
    exact clone_calls a.ad f.safe a.ab f.badSafe W (RowAt.bytes FW.safe) FW.badSafe (by have := hok.sub; omega)
  have KEY2 : Hid (∀ W, Frm (fun _ => False) w W → Calls Tryz.prog 138 #[.pointer (some ⟨a.fb, 0, none⟩)] W fun e w' => ∃ v, e = .returned v ∧ w'.ownsRow W.heap.size 3 1 v (waitList f).length (i64s ((waitList f).map fun k : Nat => (k : Int))) ∧ Frm (fun _ => False) W w') := by
    intro W hW
    have FW : FileAt W lab i a f := F.same (fun k p hl _ => hW.block k (hlab k p hl) id)
    have := waitingSectors_calls (M := sectors f.seen.length) FW.blk rfl FW.waits (hok.wlt) hml
    rw [hnum] at this
    simpa using this
  have hadf : ∃ p n c, a.ad = .slice p n c := by
    rcases F.safe.row.2 with ⟨h1, _⟩ | ⟨g, cap, cur, hv, _⟩
    · exact ⟨_, _, _, h1⟩
    · exact ⟨_, _, _, hv⟩
  obtain ⟨pa, na, ca, ha⟩ := hadf
  rw [ha] at x3 KEY1
  clear hnum ha
  go_enter Tryz.func90, Tryz.ntmps90
  have x3' := fun o => cell_alloc (o := o) x3
  have x4' := fun o => cell_alloc (o := o) x4
  go_wp2_with fail
  refine (KEY1.out _ ((Frm.refl _ _).alloc _)).mono ?_
  rintro e w1 ⟨dv, m, rfl, hd, hS, hb1, hm1, hm2, hdm⟩
  obtain ⟨pd, cd, rfl⟩ := own_form hd
  clear x3' x4'
  have f1 : Frm (fun _ => False) w w1 := ((Frm.refl (fun _ => False) w).alloc _).trans (Frm.of_below hb1 _) (fun _ _ h => h)
  go_wp2_with fail
  refine (KEY2.out _ (f1.alloc _)).mono ?_
  rintro e w2 ⟨lv, rfl, hl, hf2⟩
  obtain ⟨pl, cl, rfl⟩ := own_form hl
  have I0 : FatedInv w w2 (fatedTo f fates 0) (.slice pd f.safe.length cd) (.slice pl (waitList f).length cl) ((waitList f).map fun k : Nat => (k : Int)) w.heap.size w1.heap.size m := by
    have hsz := hb1.size
    simp only [World.size_alloc] at hsz
    refine ⟨(f1.alloc _).trans hf2 (fun _ _ h => h), (hf2.block _ (by simp) id).trans blk_alloc, (hf2.block _ (by simp; omega) id).trans ((blk_alloc_lt (by omega)).trans ((hb1.block _ (by simp)).trans blk_alloc)), ?_, ?_, ?_⟩
    · rw [fatedTo_zero]
      exact own_frm (own_frm (own_weaken_ hd (by simp)) ((Frm.refl _ _).alloc _)) hf2
    · rw [fatedTo_zero]
      exact hS.same ((hf2.block m (by simp; omega) id).trans (blk_alloc_lt hm2))
    · rw [List.length_map]
      exact own_weaken_ hl (by simp; omega)
  have hsb : w.heap.size + 1 ≤ w1.heap.size := by have := hb1.size; simpa using this
  have hmw : w.heap.size ≤ m := by simp only [World.size_alloc] at hm1; omega
  have HI := Lib.hid I0
  clear I0 hd hS hb1 hm1 hm2 hdm hl hf2 f1 KEY1 KEY2 x3 x4
  obtain ⟨N, hN⟩ : ∃ N, N = (waitList f).length := ⟨_, rfl⟩
  have hNb : N ≤ 4398046511104 := by
    rw [hN]; unfold waitList
    exact Nat.le_trans (List.length_filter_le _ _) (by simpa using hml)
  have HFL := Lib.hid hfl
  have HN := Lib.hid hN
  rw [← hN] at hfl HI ⊢
  clear hN
  generalize w1.heap.size = sb at *
  have HFC := Lib.hid hcells
  have HOK := Lib.hid hok
  have HF := Lib.hid F
  have HLab := Lib.hid hlab
  clear hcells hok F hlab
  go_wp2_with fail
  go_loopw [20] (fun v wr => ∃ q dv, v = .int .i64 (q : Nat) ∧ q ≤ N ∧ FatedInv w wr (fatedTo f fates q) dv (.slice pl N cl) ((waitList f).map fun k : Nat => (k : Int)) w.heap.size sb m) (fun v _ => N - (intOf v).toNat)
  case atStart => exact ⟨0, _, rfl, Nat.zero_le _, HI.out⟩
  case round =>
    obtain ⟨q, dv, rfl, hqN, I⟩ := hrel
    obtain ⟨pd', cd', rfl⟩ := own_form I.data
    have hblk := I.blk
    have hsbl := blk_lt hblk
    have II := Lib.hid I
    clear I
    by_cases hlt : q < N
    · have hqf : q < fates.length := by omega
      have hqw : q < (waitList f).length := by have := HN.out; omega
      have hstep := fatedTo_succ f fates q hqw hqf
      have hkw := waitList_get hqw
      have hslen := fatedTo_len HOK.out.sub fates q
      -- the list of the sectors, the fates, the bytes as seen
      obtain ⟨gl, rfl, hcl, hgl, hlc⟩ : ∃ gl, pl = some ⟨gl, 0, none⟩ ∧ N ≤ cl ∧ gl < wr.heap.size ∧ wr.cell? ⟨gl, q, none⟩ = some (.int .i64 ((waitList f)[q] : Nat)) := by
        rcases II.out.list.2 with ⟨h1, h2⟩ | ⟨gl, cap, cur, hv, hb0, hh, h1, h2, h3, h4⟩
        · simp only [List.length_map] at h2; have := HN.out; omega
        · simp only [Value.slice.injEq] at hv
          obtain ⟨rfl, _, rfl⟩ := hv
          refine ⟨gl, rfl, by simp only [List.length_map] at h1; have := HN.out; omega, blk_lt hh, ?_⟩
          simp only [World.cell?, hh]
          have h5 : (cur.toList.take (List.length ((waitList f).map fun k : Nat => (k : Int)) * 1))[q]? = (i64s ((waitList f).map fun k : Nat => (k : Int)))[q]? := by rw [h4]
          rw [List.getElem?_take_of_lt (by simp; omega)] at h5
          simp only [Option.isSome_none, Bool.false_eq_true, if_false]
          rw [← Array.getElem?_toList, h5]
          simp [i64s, hqw]
      have hfc : wr.cell? ⟨b, off + q, none⟩ = some (.int .i64 fates[q]) := (II.out.frm.cell (World.block_lt_of_cell? w _ (HFC.out q hqf)) id).trans (HFC.out q hqf)
      obtain ⟨gs, cs, hsd, hscap, hsg, hsc⟩ : ∃ gs cs, a.sd = .slice (some ⟨gs, 0, none⟩) f.seen.length cs ∧ f.seen.length ≤ cs ∧ gs < w.heap.size ∧ ∀ j, j < f.seen.length → w.cell? ⟨gs, j, none⟩ = (u8s f.seen)[j]? := by
        rcases HF.out.seen.cells with ⟨_, h2⟩ | ⟨g, cap, hv, h1, h2, _, h4, h5⟩
        · omega
        · exact ⟨g, cap, hv, h1, h4, fun j hj => h5 j (by omega)⟩
      have x1 : wr.cell? ⟨a.fb, 1, none⟩ = some (.slice (some ⟨gs, 0, none⟩) f.seen.length cs) := (II.out.frm.cell fbl id).trans (cell_of HF.out.blk (by rw [hsd]; rfl))
      have HSC := Lib.hid hsc
      clear hsc
      have hWl : sectors f.seen.length ≤ 4398046511104 := hml
      generalize hS : fatedTo f fates q = s at *
      generalize hK : (waitList f)[q] = k at *
      generalize hFt : fates[q] = fate at *
      have HST := Lib.hid hstep
      have HSK := Lib.hid (And.intro hS (And.intro hK hFt))
      clear hS hK hFt hstep
      have hlc' : wr.cell? ⟨gl, q, none⟩ = some (.int .i64 k) := hlc
      obtain ⟨T, hT⟩ : ∃ T, min ((k + 1) * 512) f.seen.length = T := ⟨_, rfl⟩
      obtain ⟨fr, hfr⟩ : ∃ fr, k * 512 = fr := ⟨_, rfl⟩
      have hT1 : fr < T := by omega
      have hT2 : T ≤ f.seen.length := by omega
      have hkk : k ≤ 8796093022208 := by omega
      have HT := Lib.hid (And.intro hT hfr)
      by_cases hf : fate = 0
      · have hfb : (fate == 0) = true := by simpa using hf
        have HFz := Lib.hid hf
        clear hf hT hfr
        go_wp2_with fail
        exact ⟨⟨q + 1, _, by go_num, by omega, by rw [HST.out, HFz.out, setSector_zero]; exact II.out⟩, by simp [intOf]; omega⟩
      · have hfb : (fate == 0) = false := by simpa using hf
        have HFz := Lib.hid hf
        clear hf hT hfr
        by_cases hk1 : fate = 1
        · have hk1b : (fate == 1) = true := by simpa using hk1
          have HK1 := Lib.hid hk1
          clear hk1
          have ysb : ∀ u, (wr.setCell ⟨sb, 0, none⟩ u).cell? ⟨sb, 0, none⟩ = some u := fun u => cell_of (blk_set hblk) (by simp)
          have z0 : wr.cell? ⟨sb, 0, none⟩ = some (.slice pd' s.data.length cd') := cell_of hblk rfl
          obtain ⟨d1, hd1⟩ : ∃ d1, d1 = s.data ++ List.replicate (T - s.data.length) 0 := ⟨_, rfl⟩
          obtain ⟨d2, hd2⟩ : ∃ d2, d2 = d1.take fr ++ List.replicate (T - fr) 0 ++ d1.drop T := ⟨_, rfl⟩
          have hl1 : d1.length = max s.data.length T := by rw [hd1]; simp; omega
          have hl2 : d2.length = d1.length := by rw [hd2]; simp; omega
          have HD := Lib.hid (And.intro hd1 hd2)
          have HL := Lib.hid (And.intro hl1 hl2)
          clear hd1 hd2 hl1 hl2
          have hmid : fr + (T - fr) = T := by omega
          have HMid := Lib.hid hmid
          clear hmid
          have hscf : ¬ cs = fr := by omega
          rcases Nat.lt_or_ge s.data.length T with hext | hext
          · have hext' : (s.data.length : Int) < T := by omega
            have hsub : (T : Int) - (s.data.length : Int) = ((T - s.data.length : Nat) : Int) := by omega
            have HSub := Lib.hid hsub
            have hbase : w.heap.size ≤ wr.heap.size := II.out.frm.size
            have hap : s.data.length + (T - s.data.length) ≤ 140737488355328 := by omega
            have hsl4 : s.data.length ≤ 8796093022208 := by omega
            clear hsub
            go_wp2_with (first
              | (go_at_call 78; (with_reducible refine (span_any _ _ fr T hkk (by omega) HT.out.2 (by have := HT.out.1; omega) _).mono ?_); rintro e w' ⟨rfl, rfl⟩)
              | (at_builtin; refine wpl_append_zeros rfl (.tmp 47) (.tmp 52) rfl (n := T - s.data.length) rfl (congrArg (Value.int .i64) HSub.out) II.out.data hap hbase (fun v1 w1 hr1 hg1 => ?_); rw [← HD.out.1] at hr1; obtain ⟨g1, c1, hv1, hc1, hg1b, hg1l⟩ := row_shape hr1 (by have := HL.out.1; omega); rw [show d1.length = T by have := HL.out.1; omega] at hv1 hc1; subst hv1; have hcf : ¬ c1 = fr := (by omega); have hne1 := own_ne_cells II.out.data hblk (by decide); have hb1 := (hg1.block sb hsbl hne1).trans hblk; have a0 : w1.cell? ⟨sb, 0, none⟩ = some (.slice pd' s.data.length cd') := cell_of hb1 rfl; have a1 : w1.frozen? ⟨sb, 0, none⟩ = false := frozen_of hb1; have ysb1 : ∀ u, (w1.setCell ⟨sb, 0, none⟩ u).cell? ⟨sb, 0, none⟩ = some u := fun u => cell_of (blk_set hb1) (by simp); have I1 := Lib.hid (II.out.store (by omega) (by omega) hg1 hr1); have HdT := Lib.hid (show d1.length = T by have := HL.out.1; omega); have hrT : World.ownsRow _ w.heap.size 5 1 (.slice (some ⟨g1, 0, none⟩) T c1) T (u8s d1) := (by have h9 := I1.out.data; simp only [] at h9; rw [HdT.out] at h9; exact h9); have hTL : T ≤ T := Nat.le_refl T; clear hr1 hg1 hb1 hne1)
              | (refine wpl_clear_bytes rfl (.tmp 67) rfl rfl (Nat.sub_pos_of_lt hT1) hrT HdT.out (Nat.le_trans (Nat.le_of_eq HMid.out) hTL) (fun w3 hr3 hg3 hs3 => ?_); rw [HMid.out, ← HD.out.2] at hr3; have HdT2 := Lib.hid (HL.out.2.trans HdT.out); have I3 := Lib.hid (I1.out.grown (d := d2) hg3 (by rw [HdT2.out]; exact hr3)); have hrT3 := hr3; clear hr3 hg3 hs3 ysb1 a0 a1 hrT z0 ysb; have x13 : w3.cell? ⟨a.fb, 1, none⟩ = some (.slice (some ⟨gs, 0, none⟩) f.seen.length cs) := (I3.out.frm.cell fbl id).trans (cell_of HF.out.blk (by rw [hsd]; rfl)); have f13 : w3.cell? ⟨b, off + q, none⟩ = some (.int .i64 fate) := (by have e9 := HSK.out.2.2; have h9 := HFC.out q hqf; rw [e9] at h9; exact (I3.out.frm.cell (World.block_lt_of_cell? w _ h9) id).trans h9); have z31 : w3.cell? ⟨sb, 0, none⟩ = some (.slice (some ⟨g1, 0, none⟩) T c1) := cell_of I3.out.blk rfl; have z32 : w3.cell? ⟨sb, 1, none⟩ = some (.map (some m)) := cell_of I3.out.blk rfl; obtain ⟨ks3, hm3, hnd3, hmem3⟩ := I3.out.bad; change MapAt (Value.int .i64) w3 m (ent ks3) at hm3; have HM3 := Lib.hid hmem3; clear hmem3))
            have hfL : fr ≤ T := by omega
            have hTcs : T ≤ cs := by omega
            have hfT : fr ≤ T := Nat.le_of_lt hT1
            go_still_tail 12, (by kernel_rfl)
            change wpList _ _ _ _ _ w3.drew
            have hsl5 : ((f.seen.take T).drop fr).length = T - fr := by rw [List.length_drop, List.length_take]; omega
            have HSL5 := Lib.hid hsl5
            have hle5 : ((f.seen.take T).drop fr).length ≤ T - fr := by omega
            have hof5 : fr + ((f.seen.take T).drop fr).length ≤ T := by omega
            clear hsl5
            refine wpl_copy_bytes rfl (.tmp 76) (.tmp 84) rfl (ys := (f.seen.take T).drop fr) HSL5.out rfl rfl ?_ (show w3.drew.ownsRow w.heap.size 5 1 (.slice (some ⟨g1, 0, none⟩) T c1) T (u8s d2) from hrT3) HdT2.out hle5 hof5 (fun w5 hr5 hg5 hs5 => ?_)
            · intro j v hv
              have hj : j < T - fr := by have := (List.getElem?_eq_some_iff.1 hv).1; rw [← HSL5.out]; simpa [u8s] using this
              have e1 : (u8s ((f.seen.take T).drop fr))[j]? = (u8s f.seen)[fr + j]? := by
                unfold u8s
                rw [List.getElem?_map, List.getElem?_map, List.getElem?_drop, List.getElem?_take_of_lt (by omega)]
              rw [e1, ← HSC.out (fr + j) (by omega)] at hv
              rw [add_off, ← hv]
              exact I3.out.frm.cell hsg id
            have I5 : Hid (FatedInv w w5 ⟨d2.take fr ++ (f.seen.take T).drop fr ++ d2.drop T, s.bad⟩ (.slice (some ⟨g1, 0, none⟩) T c1) (.slice (some ⟨gl, 0, none⟩) N cl) ((waitList f).map fun k : Nat => (k : Int)) w.heap.size sb m) := by
              have e5 : fr + ((f.seen.take T).drop fr).length = T := by have := HSL5.out; omega
              have e6 : (d2.take fr ++ (f.seen.take T).drop fr ++ d2.drop T).length = T := by
                have := HdT2.out
                rw [List.length_append, List.length_append, HSL5.out, List.length_take, List.length_drop]; omega
              rw [e5] at hr5
              exact I3.out.drew.grown (d := d2.take fr ++ (f.seen.take T).drop fr ++ d2.drop T) hg5 (by rw [e6]; exact hr5)
            clear hr5 hg5 hs5 hle5 hof5 hrT3
            have z52 : w5.cell? ⟨sb, 1, none⟩ = some (.map (some m)) := cell_of I5.out.blk rfl
            obtain ⟨ks5, hm5, hnd5, hmem5⟩ := I5.out.bad
            change MapAt (Value.int .i64) w5 m (ent ks5) at hm5
            have HM5 := Lib.hid hmem5
            clear hmem5
            go_wp2_with (first | (at_delete; refine wpl_delete _ rfl _ _ rfl kI Tryz.underlying140 (k : Int) rfl rfl hm5 (fun w6 hm6 hg6 hs6 => ?_)))
            have IF := I5.out.turned hmw hg6 (SetAt.del hnd5 HM5.out k hm6)
            refine ⟨⟨q + 1, .slice (some ⟨g1, 0, none⟩) T c1, by go_num, by omega, ?_⟩, by simp [intOf]; omega⟩
            rw [HST.out, setSector_walk HFz.out HT.out.2 HT.out.1 hslen HD.out.1 HD.out.2, if_pos HK1.out]
            exact IF
          · have hext' : ¬ (s.data.length : Int) < T := by omega
            have hsl4 : s.data.length ≤ 8796093022208 := by omega
            have hd1s : d1 = s.data := by rw [HD.out.1, show T - s.data.length = 0 by omega]; simp
            obtain ⟨g1, c1, e1, hc1, hg1b, hg1l⟩ := row_shape II.out.data (by omega)
            simp only [Value.slice.injEq, true_and] at e1
            obtain ⟨rfl, rfl⟩ := e1
            have I1 : Hid (FatedInv w wr ⟨d1, s.bad⟩ (.slice (some ⟨g1, 0, none⟩) s.data.length cd') (.slice (some ⟨gl, 0, none⟩) N cl) ((waitList f).map fun k : Nat => (k : Int)) w.heap.size sb m) := by rw [hd1s]; exact II.out
            have hcf : ¬ cd' = fr := by omega
            obtain ⟨L1, hL1⟩ : ∃ L1, L1 = s.data.length := ⟨_, rfl⟩
            have HdT := Lib.hid (show d1.length = s.data.length by rw [hd1s])
            have hrT : wr.ownsRow w.heap.size 5 1 (.slice (some ⟨g1, 0, none⟩) s.data.length cd') s.data.length (u8s d1) := by have h9 := II.out.data; rw [hd1s]; exact h9
            have hTL : T ≤ s.data.length := hext
            clear hd1s
            go_wp2_with (first
              | (go_at_call 78; (with_reducible refine (span_any _ _ fr T hkk (by omega) HT.out.2 (by have := HT.out.1; omega) _).mono ?_); rintro e w' ⟨rfl, rfl⟩)
              | (refine wpl_clear_bytes rfl (.tmp 67) rfl rfl (Nat.sub_pos_of_lt hT1) hrT HdT.out (Nat.le_trans (Nat.le_of_eq HMid.out) hTL) (fun w3 hr3 hg3 hs3 => ?_); rw [HMid.out, ← HD.out.2] at hr3; have HdT2 := Lib.hid (HL.out.2.trans HdT.out); have I3 := Lib.hid (I1.out.grown (d := d2) hg3 (by rw [HdT2.out]; exact hr3)); have hrT3 := hr3; clear hr3 hg3 hs3 hrT z0 ysb; have x13 : w3.cell? ⟨a.fb, 1, none⟩ = some (.slice (some ⟨gs, 0, none⟩) f.seen.length cs) := (I3.out.frm.cell fbl id).trans (cell_of HF.out.blk (by rw [hsd]; rfl)); have f13 : w3.cell? ⟨b, off + q, none⟩ = some (.int .i64 fate) := (by have e9 := HSK.out.2.2; have h9 := HFC.out q hqf; rw [e9] at h9; exact (I3.out.frm.cell (World.block_lt_of_cell? w _ h9) id).trans h9); have z31 : w3.cell? ⟨sb, 0, none⟩ = some (.slice (some ⟨g1, 0, none⟩) s.data.length cd') := cell_of I3.out.blk rfl; have z32 : w3.cell? ⟨sb, 1, none⟩ = some (.map (some m)) := cell_of I3.out.blk rfl; obtain ⟨ks3, hm3, hnd3, hmem3⟩ := I3.out.bad; change MapAt (Value.int .i64) w3 m (ent ks3) at hm3; have HM3 := Lib.hid hmem3; clear hmem3))
            have hfL : fr ≤ s.data.length := by omega
            have hTcs : T ≤ cs := by omega
            have hfT : fr ≤ T := Nat.le_of_lt hT1
            go_still_tail 12, (by kernel_rfl)
            change wpList _ _ _ _ _ w3.drew
            have hsl5 : ((f.seen.take T).drop fr).length = T - fr := by rw [List.length_drop, List.length_take]; omega
            have HSL5 := Lib.hid hsl5
            have hle5 : ((f.seen.take T).drop fr).length ≤ s.data.length - fr := by omega
            have hof5 : fr + ((f.seen.take T).drop fr).length ≤ s.data.length := by omega
            clear hsl5
            refine wpl_copy_bytes rfl (.tmp 76) (.tmp 84) rfl (ys := (f.seen.take T).drop fr) HSL5.out rfl rfl ?_ (show w3.drew.ownsRow w.heap.size 5 1 (.slice (some ⟨g1, 0, none⟩) s.data.length cd') s.data.length (u8s d2) from hrT3) HdT2.out hle5 hof5 (fun w5 hr5 hg5 hs5 => ?_)
            · intro j v hv
              have hj : j < T - fr := by have := (List.getElem?_eq_some_iff.1 hv).1; rw [← HSL5.out]; simpa [u8s] using this
              have e1 : (u8s ((f.seen.take T).drop fr))[j]? = (u8s f.seen)[fr + j]? := by
                unfold u8s
                rw [List.getElem?_map, List.getElem?_map, List.getElem?_drop, List.getElem?_take_of_lt (by omega)]
              rw [e1, ← HSC.out (fr + j) (by omega)] at hv
              rw [add_off, ← hv]
              exact I3.out.frm.cell hsg id
            have I5 : Hid (FatedInv w w5 ⟨d2.take fr ++ (f.seen.take T).drop fr ++ d2.drop T, s.bad⟩ (.slice (some ⟨g1, 0, none⟩) s.data.length cd') (.slice (some ⟨gl, 0, none⟩) N cl) ((waitList f).map fun k : Nat => (k : Int)) w.heap.size sb m) := by
              have e5 : fr + ((f.seen.take T).drop fr).length = T := by have := HSL5.out; omega
              have e6 : (d2.take fr ++ (f.seen.take T).drop fr ++ d2.drop T).length = s.data.length := by
                have := HdT2.out
                rw [List.length_append, List.length_append, HSL5.out, List.length_take, List.length_drop]; omega
              rw [e5] at hr5
              exact I3.out.drew.grown (d := d2.take fr ++ (f.seen.take T).drop fr ++ d2.drop T) hg5 (by rw [e6]; exact hr5)
            clear hr5 hg5 hs5 hle5 hof5 hrT3
            have z52 : w5.cell? ⟨sb, 1, none⟩ = some (.map (some m)) := cell_of I5.out.blk rfl
            obtain ⟨ks5, hm5, hnd5, hmem5⟩ := I5.out.bad
            change MapAt (Value.int .i64) w5 m (ent ks5) at hm5
            have HM5 := Lib.hid hmem5
            clear hmem5
            go_wp2_with (first | (at_delete; refine wpl_delete _ rfl _ _ rfl kI Tryz.underlying140 (k : Int) rfl rfl hm5 (fun w6 hm6 hg6 hs6 => ?_)))
            have IF := I5.out.turned hmw hg6 (SetAt.del hnd5 HM5.out k hm6)
            refine ⟨⟨q + 1, .slice (some ⟨g1, 0, none⟩) s.data.length cd', by go_num, by omega, ?_⟩, by simp [intOf]; omega⟩
            rw [HST.out, setSector_walk HFz.out HT.out.2 HT.out.1 hslen HD.out.1 HD.out.2, if_pos HK1.out]
            exact IF
        · have hk1b : (fate == 1) = false := by simpa using hk1
          have HK1 := Lib.hid hk1
          clear hk1
          have ysb : ∀ u, (wr.setCell ⟨sb, 0, none⟩ u).cell? ⟨sb, 0, none⟩ = some u := fun u => cell_of (blk_set hblk) (by simp)
          have z0 : wr.cell? ⟨sb, 0, none⟩ = some (.slice pd' s.data.length cd') := cell_of hblk rfl
          obtain ⟨d1, hd1⟩ : ∃ d1, d1 = s.data ++ List.replicate (T - s.data.length) 0 := ⟨_, rfl⟩
          obtain ⟨d2, hd2⟩ : ∃ d2, d2 = d1.take fr ++ List.replicate (T - fr) 0 ++ d1.drop T := ⟨_, rfl⟩
          have hl1 : d1.length = max s.data.length T := by rw [hd1]; simp; omega
          have hl2 : d2.length = d1.length := by rw [hd2]; simp; omega
          have HD := Lib.hid (And.intro hd1 hd2)
          have HL := Lib.hid (And.intro hl1 hl2)
          clear hd1 hd2 hl1 hl2
          have hmid : fr + (T - fr) = T := by omega
          have HMid := Lib.hid hmid
          clear hmid
          have hscf : ¬ cs = fr := by omega
          rcases Nat.lt_or_ge s.data.length T with hext | hext
          · have hext' : (s.data.length : Int) < T := by omega
            have hsub : (T : Int) - (s.data.length : Int) = ((T - s.data.length : Nat) : Int) := by omega
            have HSub := Lib.hid hsub
            have hbase : w.heap.size ≤ wr.heap.size := II.out.frm.size
            have hap : s.data.length + (T - s.data.length) ≤ 140737488355328 := by omega
            have hsl4 : s.data.length ≤ 8796093022208 := by omega
            clear hsub
            go_wp2_with (first
              | (go_at_call 78; (with_reducible refine (span_any _ _ fr T hkk (by omega) HT.out.2 (by have := HT.out.1; omega) _).mono ?_); rintro e w' ⟨rfl, rfl⟩)
              | (at_builtin; refine wpl_append_zeros rfl (.tmp 47) (.tmp 52) rfl (n := T - s.data.length) rfl (congrArg (Value.int .i64) HSub.out) II.out.data hap hbase (fun v1 w1 hr1 hg1 => ?_); rw [← HD.out.1] at hr1; obtain ⟨g1, c1, hv1, hc1, hg1b, hg1l⟩ := row_shape hr1 (by have := HL.out.1; omega); rw [show d1.length = T by have := HL.out.1; omega] at hv1 hc1; subst hv1; have hcf : ¬ c1 = fr := (by omega); have hne1 := own_ne_cells II.out.data hblk (by decide); have hb1 := (hg1.block sb hsbl hne1).trans hblk; have a0 : w1.cell? ⟨sb, 0, none⟩ = some (.slice pd' s.data.length cd') := cell_of hb1 rfl; have a1 : w1.frozen? ⟨sb, 0, none⟩ = false := frozen_of hb1; have ysb1 : ∀ u, (w1.setCell ⟨sb, 0, none⟩ u).cell? ⟨sb, 0, none⟩ = some u := fun u => cell_of (blk_set hb1) (by simp); have I1 := Lib.hid (II.out.store (by omega) (by omega) hg1 hr1); have HdT := Lib.hid (show d1.length = T by have := HL.out.1; omega); have hrT : World.ownsRow _ w.heap.size 5 1 (.slice (some ⟨g1, 0, none⟩) T c1) T (u8s d1) := (by have h9 := I1.out.data; simp only [] at h9; rw [HdT.out] at h9; exact h9); have hTL : T ≤ T := Nat.le_refl T; clear hr1 hg1 hb1 hne1)
              | (refine wpl_clear_bytes rfl (.tmp 67) rfl rfl (Nat.sub_pos_of_lt hT1) hrT HdT.out (Nat.le_trans (Nat.le_of_eq HMid.out) hTL) (fun w3 hr3 hg3 hs3 => ?_); rw [HMid.out, ← HD.out.2] at hr3; have HdT2 := Lib.hid (HL.out.2.trans HdT.out); have I3 := Lib.hid (I1.out.grown (d := d2) hg3 (by rw [HdT2.out]; exact hr3)); have hrT3 := hr3; clear hr3 hg3 hs3 ysb1 a0 a1 hrT z0 ysb; have x13 : w3.cell? ⟨a.fb, 1, none⟩ = some (.slice (some ⟨gs, 0, none⟩) f.seen.length cs) := (I3.out.frm.cell fbl id).trans (cell_of HF.out.blk (by rw [hsd]; rfl)); have f13 : w3.cell? ⟨b, off + q, none⟩ = some (.int .i64 fate) := (by have e9 := HSK.out.2.2; have h9 := HFC.out q hqf; rw [e9] at h9; exact (I3.out.frm.cell (World.block_lt_of_cell? w _ h9) id).trans h9); have z31 : w3.cell? ⟨sb, 0, none⟩ = some (.slice (some ⟨g1, 0, none⟩) T c1) := cell_of I3.out.blk rfl; have z32 : w3.cell? ⟨sb, 1, none⟩ = some (.map (some m)) := cell_of I3.out.blk rfl; obtain ⟨ks3, hm3, hnd3, hmem3⟩ := I3.out.bad; change MapAt (Value.int .i64) w3 m (ent ks3) at hm3; have HM3 := Lib.hid hmem3; clear hmem3)
              | (at_mapUpdate; refine wpl_update _ rfl _ _ _ rfl kI Tryz.underlying140 (k : Int) rfl rfl hm3 (fun w4 hm4 hg4 hs4 => ?_)))
            have IF := I3.out.turned hmw hg4 (SetAt.ins hnd3 HM3.out k hm4)
            refine ⟨⟨q + 1, .slice (some ⟨g1, 0, none⟩) T c1, by go_num, by omega, ?_⟩, by simp [intOf]; omega⟩
            rw [HST.out, setSector_walk HFz.out HT.out.2 HT.out.1 hslen HD.out.1 HD.out.2, if_neg HK1.out]
            exact IF
          · have hext' : ¬ (s.data.length : Int) < T := by omega
            have hsl4 : s.data.length ≤ 8796093022208 := by omega
            have hd1s : d1 = s.data := by rw [HD.out.1, show T - s.data.length = 0 by omega]; simp
            obtain ⟨g1, c1, e1, hc1, hg1b, hg1l⟩ := row_shape II.out.data (by omega)
            simp only [Value.slice.injEq, true_and] at e1
            obtain ⟨rfl, rfl⟩ := e1
            have I1 : Hid (FatedInv w wr ⟨d1, s.bad⟩ (.slice (some ⟨g1, 0, none⟩) s.data.length cd') (.slice (some ⟨gl, 0, none⟩) N cl) ((waitList f).map fun k : Nat => (k : Int)) w.heap.size sb m) := by rw [hd1s]; exact II.out
            have hcf : ¬ cd' = fr := by omega
            obtain ⟨L1, hL1⟩ : ∃ L1, L1 = s.data.length := ⟨_, rfl⟩
            have HdT := Lib.hid (show d1.length = s.data.length by rw [hd1s])
            have hrT : wr.ownsRow w.heap.size 5 1 (.slice (some ⟨g1, 0, none⟩) s.data.length cd') s.data.length (u8s d1) := by have h9 := II.out.data; rw [hd1s]; exact h9
            have hTL : T ≤ s.data.length := hext
            clear hd1s
            go_wp2_with (first
              | (go_at_call 78; (with_reducible refine (span_any _ _ fr T hkk (by omega) HT.out.2 (by have := HT.out.1; omega) _).mono ?_); rintro e w' ⟨rfl, rfl⟩)
              | (refine wpl_clear_bytes rfl (.tmp 67) rfl rfl (Nat.sub_pos_of_lt hT1) hrT HdT.out (Nat.le_trans (Nat.le_of_eq HMid.out) hTL) (fun w3 hr3 hg3 hs3 => ?_); rw [HMid.out, ← HD.out.2] at hr3; have HdT2 := Lib.hid (HL.out.2.trans HdT.out); have I3 := Lib.hid (I1.out.grown (d := d2) hg3 (by rw [HdT2.out]; exact hr3)); have hrT3 := hr3; clear hr3 hg3 hs3 hrT z0 ysb; have x13 : w3.cell? ⟨a.fb, 1, none⟩ = some (.slice (some ⟨gs, 0, none⟩) f.seen.length cs) := (I3.out.frm.cell fbl id).trans (cell_of HF.out.blk (by rw [hsd]; rfl)); have f13 : w3.cell? ⟨b, off + q, none⟩ = some (.int .i64 fate) := (by have e9 := HSK.out.2.2; have h9 := HFC.out q hqf; rw [e9] at h9; exact (I3.out.frm.cell (World.block_lt_of_cell? w _ h9) id).trans h9); have z31 : w3.cell? ⟨sb, 0, none⟩ = some (.slice (some ⟨g1, 0, none⟩) s.data.length cd') := cell_of I3.out.blk rfl; have z32 : w3.cell? ⟨sb, 1, none⟩ = some (.map (some m)) := cell_of I3.out.blk rfl; obtain ⟨ks3, hm3, hnd3, hmem3⟩ := I3.out.bad; change MapAt (Value.int .i64) w3 m (ent ks3) at hm3; have HM3 := Lib.hid hmem3; clear hmem3)
              | (at_mapUpdate; refine wpl_update _ rfl _ _ _ rfl kI Tryz.underlying140 (k : Int) rfl rfl hm3 (fun w4 hm4 hg4 hs4 => ?_)))
            have IF := I3.out.turned hmw hg4 (SetAt.ins hnd3 HM3.out k hm4)
            refine ⟨⟨q + 1, .slice (some ⟨g1, 0, none⟩) s.data.length cd', by go_num, by omega, ?_⟩, by simp [intOf]; omega⟩
            rw [HST.out, setSector_walk HFz.out HT.out.2 HT.out.1 hslen HD.out.1 HD.out.2, if_neg HK1.out]
            exact IF
    · obtain rfl : q = N := by omega
      have c0 := cell_of (i := 0) hblk rfl
      have c1 := cell_of (i := 1) hblk rfl
      have hres := II.out.res
      have r0 := cell_of (i := 0) hres rfl
      have r1 := cell_of (i := 1) hres rfl
      have q0 := frozen_of (i := 0) hres
      have q1 := frozen_of (i := 1) hres
      clear hres hblk
      go_wp2_with fail
      have hres := II.out.res
      have hfa : fatedTo f fates q = f.fated fates := by rw [HN.out]; exact fatedTo_all f fates HFL.out
      have II2 := II.out
      rw [hfa] at II2 ⊢
      have kf := blk_set (i := 1) (v := .map (some m)) (blk_set (i := 0) (v := .slice pd' (f.fated fates).data.length cd') hres)
      have y0 := cell_of (i := 0) kf rfl
      have y1 := cell_of (i := 1) kf rfl
      refine bodyPost_ret (v := .agg #[.slice pd' (f.fated fates).data.length cd', .map (some m)]) (by simp [results, Tryz.results90, go_sem, y0, y1]) rfl ⟨_, _, rfl, ?_, ?_, hmw, ?_, ?_⟩
      · refine ownsRow.same II2.data fun g hg => ?_
        have hne : g ≠ w.heap.size := fun e1 => own_ne_cells II2.data hres (by decide) (by rw [← e1]; exact hg.symm)
        rw [blk_set_ne hne, blk_set_ne hne]
      · have hne : m ≠ w.heap.size := by
          obtain ⟨ks, hm, _⟩ := II2.bad
          obtain ⟨es, cl2, hh, _⟩ := hm
          rintro rfl
          rw [hres] at hh; cases hh
        exact II2.bad.same (by rw [blk_set_ne hne, blk_set_ne hne])
      · obtain ⟨ks, hm, _⟩ := II2.bad
        have := hm.lt
        simpa using this
      · exact (II2.frm.setCell _ _ (fun h => absurd h (by simp))).setCell _ _ (fun h => absurd h (by simp))
end Go.Proofs.YtkmmlfphcfcbgaaGreatDoor.Dw
