/- A part of the proof of segmentMemoryUpto_holds: En. No condition. -/
import Derived.Test.YtkmmlfphcfcbgaaGreatDoorC15

/- Walks: Crash, up to its loops. -/
namespace Go.Proofs.YtkmmlfphcfcbgaaGreatDoor.Dw
open Go.RowKit Go.ChangeMaps Go.Proofs.YtkmmlfphcfcbgaaGreatDoor.Mp Go.Proofs.YtkmmlfphcfcbgaaGreatDoor.Dm Go.Proofs.YtkmmlfphcfcbgaaGreatDoor.Da
open Go.Proofs.YtkmmlfphcfcbgaaGreatDoorW.PrintWords (Kd own_store nums)
set_option linter.unusedVariables false
set_option linter.unusedSimpArgs false
set_option linter.unusedSectionVars false
/-- Behind Crash's last loop's rounds. -/
structure ImgInv (w wr : World) (l : List (Name × Nat)) (s1 s2 ms : Nat) (lv : Value) (sd : List (Name × Side)) (iv : Value) (done : List Plain) : Prop where
  frm : Frm (fun _ => False) w wr
  res : wr.heap[s1]? = some (.cells #[.slice none 0 0] 74 (0, 0))
  img : wr.heap[s2]? = some (.cells #[iv] 74 (0, 0))
  list : wr.ownsRow w.heap.size 9 1 lv l.length (strs (inOrder l))
  sides : SidesAt w.heap.size wr ms sd
  rows : fileK.R 78 wr w.heap.size (fun _ => True) iv done
theorem ImgInv.step {w wr w1 w2 : World} {l : List (Name × Nat)} {s1 s2 ms : Nat} {lv : Value} {sd : List (Name × Side)} {iv v2 : Value} {done done2 : List Plain} (h : ImgInv w wr l s1 s2 ms lv sd iv done) (hs : s1 ≠ s2) (hb : w.heap.size ≤ s2)
    (f1 : Frm (fun _ => False) wr w1) (hg : w1.grownBy w2 iv.ownBlock) (hR : fileK.R 78 w2 w.heap.size (fun _ => True) v2 done2) : ImgInv w (w2.setCell ⟨s2, 0, none⟩ v2) l s1 s2 ms lv sd v2 done2 := by
  obtain ⟨inner, ho⟩ := Kd.R_own h.rows
  have hlow : ∀ g, iv.ownBlock = some g → w.heap.size ≤ g := fun g hg => (own_low ho hg).1
  have cell : ∀ (g : Nat) (cs : Array Value) (t : TypeId), wr.heap[g]? = some (Obj.cells cs t (0, 0)) → t ≠ 78 → w2.heap[g]? = some (Obj.cells cs t (0, 0)) := by
    intro g cs t hh ht
    rw [hg.block g (Nat.lt_of_lt_of_le (Da.blk_lt hh) f1.size) (own_ne_cells ho hh (Ne.symm ht)), f1.block g (Da.blk_lt hh) id]
    exact hh
  have hi2 := cell s2 _ _ h.img (by decide)
  have ho1 := own_frm ho f1
  have hlist2 := own_grown (own_frm h.list f1) hg (own_ne_own (own_frm h.list f1) ho1 (by decide))
  have hsides2 := (h.sides.frm f1).grown hg (fun g e hlt => by
    rcases ho1.2 with ⟨e1, _⟩ | ⟨g', _, cur, e1, _, hh, _⟩
    · rw [e1] at e; simp [Value.ownBlock] at e
    · rw [e1] at e
      have : g' = g := by simpa [Value.ownBlock] using e
      subst this
      exact ⟨_, _, hh, by decide⟩)
  refine ⟨?_, ?_, ?_, ?_, ?_, ?_⟩
  · exact Frm.setCell ((h.frm.trans f1 (fun _ _ h => h)).grown hg (fun k e hk => by have := hlow k e; omega)) _ _ (fun h => absurd h (by simp; omega))
  · rw [blk_set_ne hs]; exact cell s1 _ _ h.res (by decide)
  · rw [blk_set hi2]; simp
  · exact own_grown hlist2 (setCell_grown _ _ _ _) (fun g hg2 e => own_ne_cells hlist2 hi2 (by decide) (by rw [← e]; exact hg2.symm))
  · exact hsides2.grown (setCell_grown _ _ _ _) (fun g e _ => by rw [← Option.some.inj e]; exact ⟨_, _, hi2, by decide⟩)
  · exact Kd.R_set hR hi2 (fun q hq => by
      simp only [fileK, Kd.iso, Kd.pair, Kd.string, Kd.int, Kd.scalar, Kd.slice, List.mem_cons, List.mem_append, List.not_mem_nil, or_false, false_or] at hq
      rcases hq with rfl | rfl | rfl <;> decide) _ _
set_option maxHeartbeats 2000000 in
set_option maxRecDepth 100000 in
theorem crash_calls {B : Nat} {w : World} {b : Nat} {A : Adr} {lab : Nat → Option Lb} {D : Disk} (h : DiskAt B w b A lab D) (hw : WF D) (hi : Inv D) (hlen : ∀ f, f ∈ D.files → f.seen.length ≤ 4398046511104) (hF : D.files.length ≤ 1099511627775) (hsum : ∀ dk : List (Name × Nat), dk.length ≤ D.files.length → (dk.map (wl D)).sum ≤ 18014398509481984) (hC : D.changes.length < 1099511627776)
    (fs : List Int) (k : Int) (p : Option Addr) (c : Nat) (hfs : ∀ j (hj : j < fs.length), ∃ ad, p = some ad ∧ w.cell? (ad.add j) = some (.int .i64 fs[j])) (hfl : fs.length ≤ 4611686018427387904) :
    Calls Tryz.prog 37 #[dptr b, .agg #[.slice p fs.length c, .int .i64 k]] w fun e w' => ∃ v, e = .returned (.agg #[v]) ∧ fileK.R 78 w' w.heap.size (fun _ => True) v (D.crash fs k) ∧ Frm (fun _ => False) w w' := by
  have hmm := @run_makeMap Tryz.prog
  have hns := hi.leftNs k.toNat
  have hll := hns.len_le
  have KEYL : Hid (∀ W, Frm (fun _ => False) w W → Calls Tryz.prog 86 #[dptr b, .int .i64 k] W fun e w' => ∃ m2, e = .returned (.map (some m2)) ∧ NamesAt w' m2 (D.left k.toNat) A ∧ Frm (fun _ => False) W w' ∧ W.heap.size ≤ m2 ∧ m2 < w'.heap.size) :=
    fun W hf => left_calls (h.frame hf (fun _ h => h.elim)) hw k hC
  obtain ⟨l, hl⟩ : ∃ l, l = D.left k.toNat := ⟨_, rfl⟩
  have HLeft := Lib.hid hl
  rw [← hl] at hns hll KEYL
  have hlb : l.length ≤ 1099511627775 := by omega
  have hll2 : l.length ≤ D.files.length := hll
  have HSum := Lib.hid hsum
  clear hsum
  have HNS := Lib.hid hns
  have HFS := Lib.hid hfs
  have H := Lib.hid h
  have HI := Lib.hid hi
  have HLen := Lib.hid hlen
  clear hl hns hll hfs h hi hlen hw
  unfold dptr at KEYL ⊢
  go_enter Tryz.func37, Tryz.ntmps37
  go_wp2_with fail
  refine (KEYL.out _ ((((Frm.refl _ _).alloc _).alloc _).alloc _)).mono ?_
  rintro e w1 ⟨m2, rfl, hN1, hf1, hm1, hm2⟩
  have F1 : Frm (fun _ => False) w w1 := ((((Frm.refl (fun _ => False) w).alloc _).alloc _).alloc _).trans hf1 (fun _ _ h => h)
  have b0 : w1.heap[w.heap.size]? = some (.cells #[.slice p fs.length c, .int .i64 k] 86 (0, 0)) := (hf1.block _ (by simp; omega) id).trans ((blk_alloc_lt (by simp; omega)).trans ((blk_alloc_lt (by simp)).trans blk_alloc))
  have b1 : w1.heap[w.heap.size + 1]? = some (.cells #[.slice none 0 0] 74 (0, 0)) := (hf1.block _ (by simp) id).trans ((blk_alloc_lt (by simp)).trans (by rw [show w.heap.size + 1 = (w.alloc (.cells #[.slice p fs.length c, .int .i64 k] 86)).heap.size by simp only [World.size_alloc]]; exact blk_alloc))
  have b2 : w1.heap[w.heap.size + 1 + 1]? = some (.cells #[.slice none 0 0] 74 (0, 0)) := (hf1.block _ (by simp) id).trans (by rw [show w.heap.size + 1 + 1 = ((w.alloc (.cells #[.slice p fs.length c, .int .i64 k] 86)).alloc (.cells #[.slice none 0 0] 74)).heap.size by simp only [World.size_alloc]]; exact blk_alloc)
  simp only [World.size_alloc] at hm1
  clear hf1
  go_wp2_with fail
  have N1a : NamesAt (w1.alloc (.cells #[.map (some m2)] 99)) m2 l A := hN1.same (blk_alloc_lt hm2)
  refine (sorted_calls N1a HNS.out.names (by omega)).mono ?_
  rintro e w2 ⟨p2, c2, rfl, hr2, hf2⟩
  have F1a : Frm (fun _ => False) w1 w2 := ((Frm.refl (fun _ => False) w1).alloc _).trans hf2 (fun _ _ h => h)
  have bn2 : w2.heap[w1.heap.size]? = some (.cells #[.map (some m2)] 99 (0, 0)) := (hf2.block _ (by simp) id).trans blk_alloc
  have hr2' : w2.ownsRow w.heap.size 9 1 (.slice p2 l.length c2) l.length (strs (inOrder l)) := own_weaken_ hr2 (by simp; have := F1.size; omega)
  clear hr2 hf2 N1a
  go_wp2_with fail
  refine (cloneS_calls hr2' (by omega)).mono ?_
  rintro e w3 ⟨p3, c3, rfl, hr3, hf3⟩
  have F3 : Frm (fun _ => False) w1 w3 := F1a.trans hf3 (fun _ _ h => h)
  have N3 : NamesAt w3 m2 l A := hN1.same (F3.block _ hm2 id)
  have bn3 : w3.heap[w1.heap.size]? = some (.cells #[.map (some m2)] 99 (0, 0)) := (hf3.block _ (Da.blk_lt bn2) id).trans bn2
  have hr3l : w3.ownsRow w.heap.size 9 1 (.slice p2 l.length c2) l.length (strs (inOrder l)) := own_frm hr2' hf3
  have hr3b : w3.ownsRow w2.heap.size 9 1 (.slice p3 l.length c3) l.length (strs (inOrder l)) := hr3
  have FW3 : Frm (fun _ => False) w w3 := F1.trans F3 (fun _ _ h => h)
  have hsort := sortF_calls N3 HNS.out.names HNS.out.ids (by omega) bn3 (fun q hq => by
    have hq2 := HNS.out.lt q hq
    obtain ⟨f, hf⟩ : ∃ f, D.files[q.2]? = some f := ⟨_, List.getElem?_eq_getElem hq2⟩
    have FL := H.out.files q.2 f hf
    exact ⟨by omega, _, (FW3.block _ (H.out.base _ _ FL.lfb).2 id).trans FL.blk, rfl⟩) hr3b
  have KEYS := Lib.hid hsort
  have hw2 : w2.heap.size ≤ w3.heap.size := hf3.size
  have hw1 : w1.heap.size + 1 ≤ w2.heap.size := by have := F1a.size; have := Da.blk_lt bn2; omega
  have hww : w.heap.size + 1 + 1 + 1 ≤ m2 := hm1
  -- what SortFunc leaves
  have hlow3 : ∀ g, (Value.slice p3 l.length c3).ownBlock = some g → w2.heap.size ≤ g := fun g hg => (own_low hr3b hg).1
  have I0 : Hid (∀ w4, w4.ownsRow w2.heap.size 9 1 (.slice p3 l.length c3) l.length (strs (byBirth l)) → w3.grownBy w4 (Value.slice p3 l.length c3).ownBlock →
      CrashInv w (w4.alloc (.map #[] 0)) A l (.slice p fs.length c) k w.heap.size (w.heap.size + 1) (w.heap.size + 1 + 1) w1.heap.size m2 w4.heap.size (.slice p2 l.length c2) (.slice p3 l.length c3) []) := by
    intro w4 hr4 hg4
    have f4 : Frm (fun _ => False) w2 w4 := hf3.trans (Frm.of_grown hg4) (fun i hi e => by have := hlow3 i e.symm; omega)
    have f4a : Frm (fun _ => False) w1 (w4.alloc (.map #[] 0)) := (F1a.trans f4 (fun _ _ h => h)).alloc _
    have hl4 : w4.ownsRow w.heap.size 9 1 (.slice p2 l.length c2) l.length (strs (inOrder l)) := own_frm hr2' f4
    refine ⟨F1.trans f4a (fun _ _ h => h), (f4a.block _ (Da.blk_lt b0) id).trans b0, (f4a.block _ (Da.blk_lt b1) id).trans b1, (f4a.block _ (Da.blk_lt b2) id).trans b2, ?_, hN1.same (f4a.block _ hm2 id), own_frm hl4 ((Frm.refl _ _).alloc _), own_frm (own_weaken_ hr4 (by omega)) ((Frm.refl _ _).alloc _), ?_⟩
    · exact ((f4.alloc _).block _ (Da.blk_lt bn2) id).trans bn2
    · exact ⟨[], MapAt.made w4, rfl, fun j e s he => by simp at he⟩
  have hsz : w1.heap.size < w3.heap.size := Da.blk_lt bn3
  clear hr2' hr3 hr3l hr3b hsort hf3 F1a N3 bn2 bn3 b0 b1 b2 hN1 hlow3 FW3 F3 F1
  go_wp2_with fail
  refine KEYS.out.mono ?_
  rintro e w4 ⟨rfl, hr4, hg4⟩
  have I4 := Lib.hid (I0.out w4 hr4 hg4)
  have hw4 : w3.heap.size ≤ w4.heap.size := hg4.size
  have hnem : m2 ≠ w4.heap.size := by omega
  clear hr4 hg4 I0 KEYS KEYL
  go_wp2_with fail
  have hbw : w.heap.size ≤ w4.heap.size := by omega
  clear hsz hw1 hw2 hm2
  have s0l : w.heap.size < w4.heap.size + 1 := by omega
  generalize hms : w4.heap.size = ms at *
  generalize hnv : w1.heap.size = nv at *
  clear hms hnv hw4
  obtain ⟨bl, hbl⟩ : ∃ bl, bl = byBirth l := ⟨_, rfl⟩
  have hbp : bl.Perm l := by rw [hbl]; exact byBirth_perm l
  have hbll : bl.length = l.length := hbp.length_eq
  have hwl : ∀ q, q ∈ bl → wl D q ≤ 8589934592 := fun q _ => Nat.le_trans (wl_le HLen.out) (by omega)
  have hoff : ∀ q, q ≤ bl.length → ((bl.take q).map (wl D)).sum ≤ 18014398509481984 := fun q hq => HSum.out _ (by rw [List.length_take]; omega)
  have HOff := Lib.hid hoff
  have HB := Lib.hid (And.intro hbl (And.intro hbp (And.intro hbll hwl)))
  clear hbl hbp hbll hwl hoff
  go_loopw [10, 35] (fun a v wr => ∃ q, v = .int .i64 (q : Nat) ∧ a = .int .i64 (((bl.take q).map (wl D)).sum : Nat) ∧ q ≤ l.length ∧
    CrashInv w wr A l (.slice p fs.length c) k w.heap.size (w.heap.size + 1) (w.heap.size + 1 + 1) nv m2 ms (.slice p2 l.length c2) (.slice p3 l.length c3) (sidesBy D fs (bl.take q) 0)) (fun _ v _ => l.length - (intOf v).toNat)
  case atStart => exact ⟨0, rfl, rfl, Nat.zero_le _, I4.out⟩
  case round =>
    obtain ⟨q, rfl, rfl, hq, I⟩ := hrel
    have II := Lib.hid I
    clear I
    by_cases hlt : q < l.length
    · have hqb : q < bl.length := by have := HB.out.2.2.1; omega
      have hmem : bl[q] ∈ l := HB.out.2.1.mem_iff.1 (List.getElem_mem hqb)
      have hid := HNS.out.lt _ hmem
      have hlook := (find_iff HNS.out.names bl[q].1 bl[q].2).2 hmem
      obtain ⟨l', hp', hm'⟩ := II.out.names
      have hlk := look_names hp' HNS.out.names A bl[q].1
      rw [hlook] at hlk
      have E1 : Hid ((mlook (l'.map fun p => (p.1, fptr A p.2)) bl[q].1).getD (.pointer none) = .pointer (some ⟨(A.fa bl[q].2).fb, 0, none⟩)) := by rw [hlk]; rfl
      obtain ⟨f, hf⟩ : ∃ f, D.files[bl[q].2]? = some f := ⟨_, List.getElem?_eq_getElem hid⟩
      have FL := H.out.files _ f hf
      have hDf : D.file bl[q].2 = f := by unfold Disk.file; rw [hf]; rfl
      have hfok : FOK f := HI.out.files f (List.mem_of_getElem? hf)
      have hflen := HLen.out f (List.mem_of_getElem? hf)
      have hlabw : ∀ k p, lab k = some p → k < w.heap.size := fun k p hl => (H.out.base k p hl).2
      have hstep := sidesBy_snoc D fs (bl.take q) bl[q] 0
      rw [← List.take_succ_eq_append_getElem hqb, Nat.zero_add] at hstep
      have hofs : ((bl.take (q + 1)).map (wl D)).sum = ((bl.take q).map (wl D)).sum + wl D bl[q] := by
        rw [List.take_succ_eq_append_getElem hqb, List.map_append, List.sum_append]; simp
      have hob := HOff.out (q + 1) (by omega)
      rw [hofs] at hob
      have hwlq : wl D bl[q] = (waitList f).length := by unfold wl; rw [hDf]
      have hnotin : bl[q].1 ∉ (sidesBy D fs (bl.take q) 0).map (·.1) := by
        rw [sidesBy_names]
        have hnd : (bl.map (·.1)).Nodup := (HB.out.2.1.map _).nodup_iff.2 HNS.out.names
        rw [← List.take_append_drop q bl, List.map_append, List.nodup_append] at hnd
        intro hx
        refine hnd.2.2 _ hx bl[q].1 ?_ rfl
        exact List.mem_map_of_mem (List.mem_iff_getElem.2 ⟨0, by simp; omega, by simp⟩)
      rw [hDf, hwlq] at hstep
      rw [hwlq] at hofs hob
      obtain ⟨ixb, hixb⟩ : ∃ x, x = bl[q].2 := ⟨_, rfl⟩
      obtain ⟨nm, hnm⟩ : ∃ x, x = bl[q].1 := ⟨_, rfl⟩
      rw [← hnm] at hstep hnotin E1
      rw [← hixb] at E1 FL hf
      generalize hoq : ((bl.take q).map (wl D)).sum = oq at *
      -- the cells
      obtain ⟨gb, rfl, hc3, hgb⟩ : ∃ gb, p3 = some ⟨gb, 0, none⟩ ∧ l.length ≤ c3 ∧ wr.cell? ⟨gb, q, none⟩ = some (.string nm) := by
        obtain ⟨g, c', hv, h1, h2, h3⟩ := row_shape II.out.byb (by omega)
        simp only [Value.slice.injEq, true_and] at hv
        obtain ⟨rfl, rfl⟩ := hv
        refine ⟨g, rfl, h1, ?_⟩
        rw [II.out.byb.cellAt q (by omega), ← HB.out.1, hnm]
        unfold strs
        rw [List.getElem?_map, List.getElem?_eq_getElem hqb]; rfl
      have FW : FileAt wr lab ixb (A.fa ixb) f := FL.same (fun k p hl _ => II.out.frm.block k (hlabw k p hl) id)
      have nvc : wr.cell? ⟨nv, 0, none⟩ = some (.map (some m2)) := cell_of II.out.nvb rfl
      have wbc : wr.cell? ⟨(A.fa ixb).fb, 5, none⟩ = some (.map (some (A.fa ixb).wb)) := cell_of FW.blk rfl
      obtain ⟨kws, hkm, hkl⟩ := set_len FW.waits hfok.wlt
      have hkl2 : (ent kws).length = (waitList f).length := by
        have : (numbers f.waits (sectors f.seen.length)).length = (waitList f).length := by unfold numbers waitList; simp
        rw [← this, ← hkl]; simp [ent]
      obtain ⟨i0, hi0, hz0, hz1, hz2⟩ := info_parts intInfo
      have hmx : maxLen = 9223372036854775807 := by decide
      obtain ⟨nw, hnw⟩ : ∃ nw, nw = (waitList f).length := ⟨_, rfl⟩
      rw [← hnw] at hkl2 hob hofs hstep
      have hnwb : nw ≤ 8589934592 := by rw [hnw]; have := HB.out.2.2.2 _ (List.getElem_mem hqb); omega
      have HKL := Lib.hid hkl2
      have HNW := Lib.hid hnw
      have HST := Lib.hid (And.intro hstep (And.intro hofs (And.intro hnotin hoq)))
      have HIX := Lib.hid (And.intro hixb (And.intro hnm (And.intro hDf (And.intro hwlq hf))))
      have HFW := Lib.hid FW
      have HFOK := Lib.hid hfok
      have hwr : w.heap.size ≤ wr.heap.size := II.out.frm.size
      clear hkl2 hnw hstep hofs hnotin hoq hixb hnm hDf hwlq hf FW hfok hlk hp' hlook hmem hid FL hkl
      go_wp2_with (first
        | (at_lookup; refine wpl_lookup _ rfl _ _ _ rfl kS Tryz.underlying99 (zP _) nm rfl rfl hm' ?_; rw [if_neg (by simp), E1.out])
        | (refine wpl_len _ rfl (.tmp 45) rfl Tryz.underlying140 rfl hkm ?_; rw [HKL.out])
        | (at_make; refine wpList_make_full _ rfl _ _ _ rfl w.heap.size 3 i0 _ 1 Tryz.underlying76 hi0 hz0 hz1 .i64 .i64 _ _ nw rfl rfl rfl rfl (by rw [hz2]; omega) (by omega) hwr ?_; intro w5 hown5 hg5))
      have hown5' : w5.ownsRow w.heap.size 3 1 (.slice (some ⟨wr.heap.size, 0, none⟩) nw nw) nw (i64s (fatesFrom fs oq 0 ++ List.replicate (nw - 0) 0)) := by
        have e : (madeCells (Value.int .i64 0).cells (nw * 1)).toList = i64s (fatesFrom fs oq 0 ++ List.replicate (nw - 0) 0) := by
          apply List.ext_getElem
          · simp [i64s, madeCells, fatesFrom]
          · intro j h1 h2; simp [i64s, madeCells, fatesFrom, Value.cells, Nat.mod_one]
        rw [← e]; exact hown5
      have f5 : Frm (fun _ => False) wr w5 := Frm.of_grown hg5 |>.mono (fun k _ e => by cases e)
      have hg5l : wr.heap.size < w5.heap.size := (own_low hown5 (k := wr.heap.size) rfl).2
      have H5 := Lib.hid (And.intro hown5' f5)
      clear hown5 hown5' hg5 f5 nvc wbc hgb hm' hkm
      have hgw : w.heap.size < wr.heap.size := Da.blk_lt II.out.box
      generalize hgfe : wr.heap.size = gf at *
      have HGF := Lib.hid hgfe
      clear hgfe
      obtain ⟨wa, rfl⟩ : ∃ wa, wa = wr := ⟨_, rfl⟩
      go_wp2_with fail
      have hoqb : oq ≤ 18014398509481984 := by omega
      go_loopw [10, 50] (fun a v wx => ∃ j, v = .int .i64 (j : Nat) ∧ a = .int .i64 ((oq + j : Nat) : Int) ∧ j ≤ nw ∧ Frm (fun _ => False) wa wx ∧ gf < wx.heap.size ∧ wx.ownsRow w.heap.size 3 1 (.slice (some ⟨gf, 0, none⟩) nw nw) nw (i64s (fatesFrom fs oq j ++ List.replicate (nw - j) 0))) (fun _ v _ => nw - (intOf v).toNat)
      case atStart => exact ⟨0, rfl, rfl, Nat.zero_le _, H5.out.2, hg5l, H5.out.1⟩
      case round =>
        obtain ⟨j, rfl, rfl, hj, fx, hgx, hrx⟩ := hrel
        by_cases hjl : j < nw
        · have boxc : wr.cell? ⟨w.heap.size, 0, none⟩ = some (.slice p fs.length c) := cell_of ((fx.block _ (Da.blk_lt II.out.box) id).trans II.out.box) rfl
          have ecast : ((oq + j : Nat) : Int) = (oq : Int) + (j : Int) := by omega
          have hcj : wr.cell? ⟨gf, j, none⟩ = some (.int .i64 0) ∧ wr.frozen? ⟨gf, j, none⟩ = false := by
            rcases hrx.2 with ⟨h1, _⟩ | ⟨g', cap', cur, hv, _, hh, _, _, _, h4⟩
            · cases h1
            · simp only [Value.slice.injEq, Option.some.injEq, Addr.mk.injEq, true_and, and_true] at hv
              obtain ⟨rfl, rfl⟩ := hv
              refine ⟨?_, frozen_of hh⟩
              rw [hrx.cellAt j (by omega)]
              unfold i64s
              rw [List.getElem?_map, List.getElem?_append_right (by rw [fatesFrom_length]; exact Nat.le_refl _), fatesFrom_length, Nat.sub_self, List.getElem?_replicate, if_pos (by omega)]; rfl
          obtain ⟨cj, cfz⟩ := hcj
          have e1 : ((oq + j : Nat) : Int) + 1 = ((oq + (j + 1) : Nat) : Int) := by omega
          have E1x := Lib.hid e1
          clear ecast e1
          generalize hoj : oq + j = oj at *
          have HOJ := Lib.hid hoj
          clear hoj
          have hojb : oj ≤ 4611686018427387904 := by have := HOJ.out; omega
          by_cases hat : oj < fs.length
          · obtain ⟨ad, rfl, hac⟩ := HFS.out oj hat
            have hac' : wr.cell? (ad.add oj) = some (.int .i64 fs[oj]) := by
              have hl := World.block_lt_of_cell? w _ hac
              rw [← hac]
              exact World.cell?_of_block ((II.out.frm.trans fx (fun _ _ h => h)).block _ hl id)
            obtain ⟨x, hx⟩ : ∃ x, x = fs[oj] := ⟨_, rfl⟩
            rw [← hx] at hac'
            have HX := Lib.hid hx
            clear hx hac
            have hrow' : (wr.setCell ⟨gf, j, none⟩ (.int .i64 x)).ownsRow w.heap.size 3 1 (.slice (some ⟨gf, 0, none⟩) nw nw) nw (i64s (fatesFrom fs oq (j + 1) ++ List.replicate (nw - (j + 1)) 0)) := by
              have h1 := (hrx.stored j (.int .i64 x)).1
              have h2 : (i64s (fatesFrom fs oq j ++ List.replicate (nw - j) 0)).set j (.int .i64 x) = i64s (fatesFrom fs oq (j + 1) ++ List.replicate (nw - (j + 1)) 0) := by
                rw [← fates_set fs oq j nw hjl x (by have e9 := HOJ.out; subst e9; rw [HX.out, List.getElem?_eq_getElem hat]; rfl)]
                unfold i64s
                rw [List.map_set]
              rw [h2] at h1
              exact h1
            have HR := Lib.hid hrow'
            have fx' : Frm (fun _ => False) wa (wr.setCell ⟨gf, j, none⟩ (.int .i64 x)) := Frm.setCell fx _ _ (fun h => absurd h (by have := HGF.out; simp; omega))
            clear hrow'
            go_wp2_with fail
            exact ⟨⟨j + 1, by go_num, by rw [show oq + (j + 1) = oj + 1 by have := HOJ.out; omega]; go_num, by omega, fx', by simpa using hgx, HR.out⟩, by simp [intOf]; omega⟩
          · have hrow' : wr.ownsRow w.heap.size 3 1 (.slice (some ⟨gf, 0, none⟩) nw nw) nw (i64s (fatesFrom fs oq (j + 1) ++ List.replicate (nw - (j + 1)) 0)) := by
              rw [← fates_keep fs oq j nw hjl (by have := HOJ.out; omega)]
              exact hrx
            have HR := Lib.hid hrow'
            clear hrow'
            go_wp2_with fail
            exact ⟨⟨j + 1, by go_num, by rw [show oq + (j + 1) = oj + 1 by have := HOJ.out; omega]; go_num, by omega, fx, hgx, HR.out⟩, by simp [intOf]; omega⟩
        · obtain rfl : j = nw := by omega
          rw [Nat.sub_self, List.replicate_zero, List.append_nil] at hrx
          have FX : FileAt wr lab ixb (A.fa ixb) f := HFW.out.same (fun k p hl _ => fx.block k (by have := (H.out.base k p hl).2; have := II.out.frm.size; omega) id)
          have hfl2 : (fatesFrom fs oq j).length = j := fatesFrom_length _ _ _
          have KEYF := fated_calls FX (fun k p hl => by have := (H.out.base k p hl).2; have := II.out.frm.size; have := fx.size; omega) HFOK.out hflen (fatesFrom fs oq j) (by rw [hfl2]; exact HNW.out) gf 0 j (by rw [hfl2]; exact Nat.le_refl _)
            (fun i hi => by
              rw [Nat.zero_add, hrx.cellAt i (by omega)]
              unfold i64s
              rw [List.getElem?_map, List.getElem?_eq_getElem hi]; rfl)
          rw [hfl2] at KEYF
          have KF := Lib.hid KEYF
          have HRX := Lib.hid (And.intro hrx (And.intro fx hgx))
          clear KEYF FX hrx fx hgx hfl2
          have hmsl : ms < wr.heap.size := by have := II.out.sides.lt; have := HRX.out.2.1.size; omega
          go_wp2_with (first
            | (go_at_call 90; refine KF.out.mono ?_; rintro e w6 ⟨dv, m', rfl, hd6, hS6, hm6a, hm6b, hf6⟩; have I6 := Lib.hid (II.out.move (HRX.out.2.1.trans hf6 (fun _ _ h => h))); obtain ⟨es, hes, hput⟩ := I6.out.sides.put HST.out.2.2.1 (own_weaken_ hd6 (by have := HRX.out.2.1.size; omega)) hS6 (by omega); have HPut := Lib.hid hput; clear hput hd6 hS6)
            | (at_mapUpdate; refine wpl_update _ rfl _ _ _ rfl kS Tryz.underlying164 nm rfl rfl hes (fun w7 hm7 hg7 hs7 => ?_)))
          have IF := I6.out.put hnem hbw hg7 (HPut.out w7 hm7 hg7)
          rw [← HST.out.1] at IF
          go_roundw
          case rel => exact ⟨q + 1, by go_num, by rw [HST.out.2.1]; first | rfl | go_num, by omega, IF⟩
          case measure => simp [intOf]; omega
    · obtain rfl : q = l.length := by omega
      have hbt : bl.take l.length = bl := List.take_of_length_le (by have := HB.out.2.2.1; omega)
      rw [hbt] at II ⊢
      obtain ⟨sd, hsd⟩ : ∃ sd, sd = sidesBy D fs bl 0 := ⟨_, rfl⟩
      rw [← hsd] at II
      have HSD := Lib.hid hsd
      clear hsd hbt
      have J0 : ImgInv w wr l (w.heap.size + 1) (w.heap.size + 1 + 1) ms (.slice p2 l.length c2) sd (.slice none 0 0) ((((inOrder l).take 0)).map fun p => plain p.1 (sideOf sd p.1)) :=
        ⟨II.out.frm, II.out.res, II.out.img, II.out.list, II.out.sides, Kd.R_nil _ _ _ _ _⟩
      have HJ := Lib.hid J0
      clear J0
      go_wp2_with fail
      go_loopw [77] (fun v wr => ∃ q iv, v = .int .i64 (q : Nat) ∧ q ≤ l.length ∧ ImgInv w wr l (w.heap.size + 1) (w.heap.size + 1 + 1) ms (.slice p2 l.length c2) sd iv ((((inOrder l).take q)).map fun p => plain p.1 (sideOf sd p.1))) (fun v _ => l.length - (intOf v).toNat)
      case atStart => exact ⟨0, _, rfl, Nat.zero_le _, HJ.out⟩
      case round =>
        obtain ⟨q, iv, rfl, hq3, J⟩ := hrel
        have JJ := Lib.hid J
        clear J
        have hil : (inOrder l).length = l.length := (inOrder_perm l).length_eq
        by_cases hlt3 : q < l.length
        · have hqi : q < (inOrder l).length := by omega
          obtain ⟨pp, hpp⟩ : ∃ x, x = (inOrder l)[q] := ⟨_, rfl⟩
          have hpl : pp ∈ l := (inOrder_perm l).mem_iff.1 (by rw [hpp]; exact List.getElem_mem hqi)
          have hpb : pp ∈ bl := HB.out.2.1.mem_iff.2 hpl
          have hbn : (bl.map (·.1)).Nodup := (HB.out.2.1.map _).nodup_iff.2 HNS.out.names
          obtain ⟨c', _, _, hside⟩ := sidesBy_of (D := D) (fs := fs) bl 0 hbn pp hpb
          rw [← HSD.out] at hside
          obtain ⟨hsok, hslen⟩ := fated_ok (HI.out.fileOk pp.2) (fatesFrom fs c' (waitList (D.file pp.2)).length)
          rw [← hside] at hsok hslen
          have hdl : (D.file pp.2).seen.length ≤ 4398046511104 := by
            unfold Disk.file
            cases hf : D.files[pp.2]? with
            | none => simp [FileS.new]
            | some f => exact HLen.out f (List.mem_of_getElem? hf)
          obtain ⟨es, hes, dv, m, hlk, hdv, hS⟩ := JJ.out.sides.get (n := pp.1) (by rw [HSD.out, sidesBy_names]; exact List.mem_map_of_mem hpb)
          have hstep : ((inOrder l).take (q + 1)).map (fun p => plain p.1 (sideOf sd p.1)) = (((inOrder l).take q)).map (fun p => plain p.1 (sideOf sd p.1)) ++ [plain pp.1 (sideOf sd pp.1)] := by
            rw [List.take_succ_eq_append_getElem hqi, List.map_append, ← hpp]; rfl
          obtain ⟨done, hdone⟩ : ∃ x, x = (((inOrder l).take q)).map (fun p => plain p.1 (sideOf sd p.1)) := ⟨_, rfl⟩
          have hdn : done.length = q := by rw [hdone]; simp; omega
          rw [← hdone] at hstep JJ
          obtain ⟨gl, rfl, hc2, hgl⟩ : ∃ gl, p2 = some ⟨gl, 0, none⟩ ∧ l.length ≤ c2 ∧ wr.cell? ⟨gl, q, none⟩ = some (.string pp.1) := by
            obtain ⟨g, c', hv, h1, h2, h3⟩ := row_shape JJ.out.list (by omega)
            simp only [Value.slice.injEq, true_and] at hv
            obtain ⟨rfl, rfl⟩ := hv
            refine ⟨g, rfl, h1, ?_⟩
            rw [JJ.out.list.cellAt q (by omega), hpp]
            unfold strs
            rw [List.getElem?_map, List.getElem?_eq_getElem hqi]; rfl
          generalize hnm : pp.1 = nm at *
          generalize hsv : sideOf sd nm = sv at *
          obtain ⟨ci, hivs⟩ : ∃ A ci, iv = .slice A done.length ci := by
            obtain ⟨A, ci, e, _⟩ := Kd.R_reads JJ.out.rows
            exact ⟨A, ci, e⟩
          obtain ⟨ci2, rfl⟩ := hivs
          rw [hdn] at JJ
          have lkd : (Instr.lookup 164 (.map (some ms)) (.string nm) false).run Tryz.prog wr.drew = .ok (.agg #[dv, .map (some m)]) wr.drew := by
            have hes' : MapAt Value.string wr.drew ms es := hes.of_block rfl
            have zS : (zeroValue 142).run Tryz.prog wr.drew = .ok (.agg #[.slice none 0 0, .map none]) wr.drew := by kernel_rfl
            have := hes'.lookup kS Tryz.underlying164 zS nm false
            rw [this, hlk]; rfl
          have KEYP := Lib.hid (plain_calls (w := wr.drew) nm dv sv.data m sv.bad (Lies.of_own (w := wr.drew) hdv) (hS.same rfl) hsok.bad (by omega))
          have imc : wr.cell? ⟨w.heap.size + 1 + 1, 0, none⟩ = some (.slice ci q ci2) := cell_of JJ.out.img rfl
          have imf : wr.frozen? ⟨w.heap.size + 1 + 1, 0, none⟩ = false := frozen_of JJ.out.img
          have hwr3 : w.heap.size ≤ wr.heap.size := JJ.out.frm.size
          have hiv : ∀ g, (Value.slice ci q ci2).ownBlock = some g → g < wr.heap.size := fun g hg => by
            obtain ⟨inner, ho⟩ := Kd.R_own JJ.out.rows
            exact (own_low ho hg).2
          have hne2 : some (w.heap.size + 1 + 1) ≠ (Value.slice ci q ci2).ownBlock := by
            obtain ⟨inner, ho⟩ := Kd.R_own JJ.out.rows
            exact own_ne_cells ho JJ.out.img (by decide)
          have HNe2 := Lib.hid hne2
          have HIv := Lib.hid hiv
          clear hne2
          have HSTP := Lib.hid (And.intro hstep (And.intro hdn hqi))
          have hlbytes : (done.length + 1) * 64 ≤ 140737488355328 := by rw [hdn]; omega
          clear hiv hstep hdn hlk hdv hS hes hside hsok hslen hdone hnm hpp hsv hpl hpb hbn
          go_wp2_with fail
          go_region_law ((first
            | ((with_reducible rw [if_pos (show Region.wanted _ _ = true from by simp [Region.wanted])]); go_simp; (with_reducible refine KEYP.out.mono ?_); rintro e w1 ⟨dv', bv', rfl, hd', hb', hf'⟩; have imb1 := (hf'.block (w.heap.size + 1 + 1) (Da.blk_lt JJ.out.img) id).trans JJ.out.img; have im1 : w1.cell? ⟨w.heap.size + 1 + 1, 0, none⟩ = some (.slice ci q ci2) := cell_of imb1 rfl; have im2 : (w1.alloc (.cells #[.string nm, dv', bv'] 78)).cell? ⟨w.heap.size + 1 + 1, 0, none⟩ = some (.slice ci q ci2) := cell_alloc im1; have HP1 := Lib.hid (And.intro hd' (And.intro hb' hf')); clear hd' hb' hf' imb1)
            | (refine Kd.R_append_step fileK (w0 := w) (W := w1) w.heap.size (by simp [Region.wanted]) (.tmp 82) (.tmp 88) _ 78 _ 64 rfl Tryz.underlying72 fileInfo rfl (by rw [fileK_sz]; omega) (by omega) (.slice ci q ci2) done (plain nm sv) [.string nm, dv', bv'] (fun _ => True) (fun k => wr.heap.size ≤ k) rfl rfl (fileK_M' HP1.out.1 HP1.out.2.1 hwr3) (fun k hk => ⟨trivial, fun e => by have := HIv.out k e.symm; omega⟩) (fun _ _ => trivial) (Kd.R_step JJ.out.rows (fun k _ hk => HP1.out.2.2.block k hk id)) ((JJ.out.frm.drew.trans HP1.out.2.2 (fun _ _ h => h)).below (fun _ h => h.elim) (Nat.le_refl _)) (Nat.le_trans hwr3 HP1.out.2.2.size) hlbytes ?_; intro v2 w2 hR2 hB2 hg2 hat2; obtain ⟨A2, ci3, hv2, _, _⟩ := Kd.R_reads hR2; subst hv2; have imb2 := (hg2.block (w.heap.size + 1 + 1) (by have := Da.blk_lt JJ.out.img; have := HP1.out.2.2.size; simp at this; omega) HNe2.out).trans ((HP1.out.2.2.block (w.heap.size + 1 + 1) (Da.blk_lt JJ.out.img) id).trans JJ.out.img); have im3 : w2.cell? ⟨w.heap.size + 1 + 1, 0, none⟩ = some (.slice ci q ci2) := cell_of imb2 rfl; have im4 : w2.frozen? ⟨w.heap.size + 1 + 1, 0, none⟩ = false := frozen_of imb2; have HP2 := Lib.hid (And.intro hR2 (And.intro hB2 (And.intro hg2 (And.intro hat2 imb2)))); clear hR2 hB2 hg2 hat2 imb2)))
          all_goals
            go_wp2_with fail
            have hR := HP2.out.1
            simp only [List.length_append, List.length_singleton] at hR
            refine ⟨⟨q + 1, .slice A2 (done.length + 1) ci3, by go_num, by omega, ?_⟩, by simp [intOf]; omega⟩
            rw [HSTP.out.1]
            exact JJ.out.step (by omega) (by omega) ((Frm.refl (fun _ => False) wr).drew.trans HP1.out.2.2 (fun _ _ h => h)) HP2.out.2.2.1 hR
        · obtain rfl : q = l.length := by omega
          have imc : wr.cell? ⟨w.heap.size + 1 + 1, 0, none⟩ = some iv := cell_of JJ.out.img rfl
          obtain ⟨ci, ci2, hiv, _⟩ := Kd.R_reads JJ.out.rows
          subst hiv
          have r0 := cell_of (i := 0) JJ.out.res rfl
          have q0 := frozen_of (i := 0) JJ.out.res
          have hall : (((inOrder l).take l.length).map fun p => plain p.1 (sideOf sd p.1)) = D.crash fs k := by
            rw [List.take_of_length_le (by omega), HSD.out, HB.out.1]
            unfold Disk.crash
            rw [← HLeft.out]
          have hrows := JJ.out.rows
          rw [hall] at hrows
          have hres := JJ.out.res
          have HRow := Lib.hid (And.intro hrows hres)
          have HA := Lib.hid hall
          clear hrows hres hall
          go_wp2_with fail
          obtain ⟨hrows, hres⟩ := HRow.out
          have el : (D.crash fs k).length = l.length := by rw [← HA.out]; simp; omega
          rw [el] at hrows
          have kf := blk_set (i := 0) (v := .slice ci l.length ci2) hres
          have y0 := cell_of (i := 0) kf rfl
          refine bodyPost_ret (v := .agg #[.slice ci l.length ci2]) (by simp [results, Tryz.results37, go_sem, y0]) rfl ⟨_, rfl, ?_, ?_⟩
          · exact Kd.R_set hrows hres (fun q hq => by
              simp only [fileK, Kd.iso, Kd.pair, Kd.string, Kd.int, Kd.scalar, Kd.slice, List.mem_cons, List.mem_append, List.not_mem_nil, or_false, false_or] at hq
              rcases hq with rfl | rfl | rfl <;> decide) _ _
          · exact JJ.out.frm.setCell _ _ (fun h => absurd h (by simp))
end Go.Proofs.YtkmmlfphcfcbgaaGreatDoor.Dw
