/- A part of the proof of segmentSick_holds: Fc. No condition. -/
import Derived.Test.YtpckkdjdjkjapaaGreatDoorC20

/- Walks: Seen. -/
namespace Go.Proofs.YtpckkdjdjkjapaaGreatDoor.Dw
open Go.RowKit Go.ChangeMaps Go.Proofs.YtpckkdjdjkjapaaGreatDoor.Mp Go.Proofs.YtpckkdjdjkjapaaGreatDoor.Dm Go.Proofs.YtpckkdjdjkjapaaGreatDoor.Da
open Go.Proofs.YtpckkdjdjkjapaaGreatDoorW.PrintWords (Kd own_store nums)
set_option linter.unusedVariables false
set_option linter.unusedSimpArgs false
set_option linter.unusedSectionVars false
/-- Behind Seen's rounds. -/
structure SeenInv (w wr : World) (l : List (Name × Nat)) (s1 s2 : Nat) (lv : Value) (iv : Value) (done : List Plain) : Prop where
  frm : Frm (fun _ => False) w wr
  res : wr.heap[s1]? = some (.cells #[.slice none 0 0] 24 (0, 0))
  img : wr.heap[s2]? = some (.cells #[iv] 24 (0, 0))
  list : wr.ownsRow w.heap.size 9 1 lv l.length (strs (inOrder l))
  rows : fileK.R 95 wr w.heap.size (fun _ => True) iv done
theorem SeenInv.step {w wr w1 w2 : World} {l : List (Name × Nat)} {s1 s2 : Nat} {lv : Value} {iv v2 : Value} {done done2 : List Plain} (h : SeenInv w wr l s1 s2 lv iv done) (hs : s1 ≠ s2) (hb : w.heap.size ≤ s2)
    (f1 : Frm (fun _ => False) wr w1) (hg : w1.grownBy w2 iv.ownBlock) (hR : fileK.R 95 w2 w.heap.size (fun _ => True) v2 done2) : SeenInv w (w2.setCell ⟨s2, 0, none⟩ v2) l s1 s2 lv v2 done2 := by
  obtain ⟨inner, ho⟩ := Kd.R_own h.rows
  have hlow : ∀ g, iv.ownBlock = some g → w.heap.size ≤ g := fun g hg => (own_low ho hg).1
  have cell : ∀ (g : Nat) (cs : Array Value) (t : TypeId), wr.heap[g]? = some (Obj.cells cs t (0, 0)) → t ≠ 95 → w2.heap[g]? = some (Obj.cells cs t (0, 0)) := by
    intro g cs t hh ht
    rw [hg.block g (Nat.lt_of_lt_of_le (Da.blk_lt hh) f1.size) (own_ne_cells ho hh (Ne.symm ht)), f1.block g (Da.blk_lt hh) id]
    exact hh
  have hi2 := cell s2 _ _ h.img (by decide)
  have ho1 := own_frm ho f1
  have hlist2 := own_grown (own_frm h.list f1) hg (own_ne_own (own_frm h.list f1) ho1 (by decide))
  refine ⟨?_, ?_, ?_, ?_, ?_⟩
  · exact Frm.setCell ((h.frm.trans f1 (fun _ _ h => h)).grown hg (fun k e hk => by have := hlow k e; omega)) _ _ (fun h => absurd h (by simp; omega))
  · rw [blk_set_ne hs]; exact cell s1 _ _ h.res (by decide)
  · rw [blk_set hi2]; simp
  · exact own_grown hlist2 (setCell_grown _ _ _ _) (fun g hg2 e => own_ne_cells hlist2 hi2 (by decide) (by rw [← e]; exact hg2.symm))
  · exact Kd.R_set hR hi2 (fun q hq => by rcases img_types hq with rfl | rfl | rfl <;> decide) _ _
set_option maxHeartbeats 2000000 in
set_option maxRecDepth 100000 in
theorem seen_calls {B : Nat} {w : World} {b : Nat} {A : Adr} {lab : Nat → Option Lb} {D : Disk} (h : DiskAt B w b A lab D) (hi : Inv D) (hlen : ∀ f, f ∈ D.files → f.seen.length ≤ 4398046511104) (hF : D.files.length ≤ 1099511627775) :
    Calls Tryz.prog 24 #[dptr b] w fun e w' => ∃ v, e = .returned v ∧ ImgAt w' w.heap.size v D.seenImg ∧ Frm (fun _ => False) w w' := by
  have c8 : w.cell? ⟨b, 8, none⟩ = some (.bool D.off) := main_cell h.blk rfl
  have c0 : w.cell? ⟨b, 0, none⟩ = some (.map (some A.nm)) := main_cell h.blk rfl
  have hnl := hi.now.len_le
  have blt := Da.blk_lt h.blk
  cases hoff : D.off with
  | true =>
    have hr : D.seenImg = [] := by unfold Disk.seenImg; rw [if_pos hoff]
    rw [hr]
    rw [hoff] at c8
    clear hr hoff h hi hlen hF c0 hnl
    unfold dptr
    go_enter Tryz.func24, Tryz.ntmps24
    go_wp2
    have hres : (w.alloc (.cells #[.slice none 0 0] 24)).heap[w.heap.size]? = some (.cells #[.slice none 0 0] 24 (0, 0)) := blk_alloc
    have kf := blk_set (i := 0) (v := .slice none 0 0) ((blk_alloc_lt (w := w.alloc (.cells #[.slice none 0 0] 24)) (o := .cells #[.slice none 0 0] 24) (by simp)).trans hres)
    have y0 := cell_of (i := 0) kf rfl
    refine bodyPost_ret (v := .agg #[.slice none 0 0]) (by simp [results, Tryz.results24, go_sem, y0]) rfl ⟨_, rfl, ⟨none, 0, rfl, Kd.R_nil _ _ _ _ _⟩, ?_⟩
    exact ((Frm.refl (fun _ => False) w).alloc _).alloc _
  | false =>
    have hr : D.seenImg = (inOrder D.now).map fun p => plain p.1 ⟨(D.file p.2).seen, (D.file p.2).badSeen⟩ := by unfold Disk.seenImg; rw [if_neg (by rw [hoff]; simp)]
    rw [hr]
    rw [hoff] at c8
    obtain ⟨l, hl⟩ : ∃ l, l = D.now := ⟨_, rfl⟩
    have HL := Lib.hid hl
    have hNm := h.names
    have hns := hi.now
    rw [← hl] at hnl hNm hns ⊢
    have KEYS : Hid (∀ W, Frm (fun _ => False) w W → Calls Tryz.prog 65 #[.map (some A.nm)] W fun e w' => ∃ p c, e = .returned (.slice p l.length c) ∧ w'.ownsRow W.heap.size 9 1 (.slice p l.length c) l.length (strs (inOrder l)) ∧ Frm (fun _ => False) W w') :=
      fun W hf => sorted_calls (hNm.same (hf.block _ (names_lt hNm) id)) hns.names (by omega)
    have hllen : l.length ≤ 1099511627775 := by omega
    have H := Lib.hid h
    have HI := Lib.hid hi
    have HLen := Lib.hid hlen
    have HNS := Lib.hid hns
    clear hr hoff h hi hlen hl hns hNm
    unfold dptr
    go_enter Tryz.func24, Tryz.ntmps24
    go_wp2_with fail
    refine (KEYS.out _ (((Frm.refl _ _).alloc _).alloc _)).mono ?_
    rintro e w1 ⟨p2, c2, rfl, hr1, hf1⟩
    have F1 : Frm (fun _ => False) w w1 := (((Frm.refl (fun _ => False) w).alloc _).alloc _).trans hf1 (fun _ _ h => h)
    have b1 : w1.heap[w.heap.size]? = some (.cells #[.slice none 0 0] 24 (0, 0)) := (hf1.block _ (by simp; omega) id).trans ((blk_alloc_lt (by simp)).trans blk_alloc)
    have b2 : w1.heap[w.heap.size + 1]? = some (.cells #[.slice none 0 0] 24 (0, 0)) := (hf1.block _ (by simp) id).trans (by rw [show w.heap.size + 1 = (w.alloc (.cells #[.slice none 0 0] 24)).heap.size by simp only [World.size_alloc]]; exact blk_alloc)
    have J0 : SeenInv w w1 l w.heap.size (w.heap.size + 1) (.slice p2 l.length c2) (.slice none 0 0) ((((inOrder l).take 0)).map fun p => plain p.1 ⟨(D.file p.2).seen, (D.file p.2).badSeen⟩) :=
      ⟨F1, b1, b2, own_weaken_ hr1 (by simp; omega), Kd.R_nil _ _ _ _ _⟩
    have HJ := Lib.hid J0
    clear J0 hr1 hf1 F1 b1 b2 c0 c8 KEYS
    go_wp2_with fail
    go_loopw [21] (fun v wr => ∃ q iv, v = .int .i64 (q : Nat) ∧ q ≤ l.length ∧ SeenInv w wr l w.heap.size (w.heap.size + 1) (.slice p2 l.length c2) iv ((((inOrder l).take q)).map fun p => plain p.1 ⟨(D.file p.2).seen, (D.file p.2).badSeen⟩)) (fun v _ => l.length - (intOf v).toNat)
    case atStart => exact ⟨0, _, rfl, Nat.zero_le _, HJ.out⟩
    case round =>
      obtain ⟨q, iv, rfl, hq3, J⟩ := hrel
      have JJ := Lib.hid J
      clear J
      have hil : (inOrder l).length = l.length := (inOrder_perm l).length_eq
      by_cases hlt3 : q < l.length
      · have hqi : q < (inOrder l).length := by omega
        obtain ⟨pp, hpp⟩ : ∃ x, x = (inOrder l)[q] := ⟨_, rfl⟩
        have hpl : pp ∈ l := (inOrder_perm l).mem_iff.1 (by rw [hpp]; exact List.getElem_mem hqi)
        have hid := HNS.out.lt _ hpl
        obtain ⟨f, hf⟩ : ∃ f, D.files[pp.2]? = some f := ⟨_, List.getElem?_eq_getElem hid⟩
        have hDf : D.file pp.2 = f := by unfold Disk.file; rw [hf]; rfl
        have hfok : FOK f := HI.out.files f (List.mem_of_getElem? hf)
        have hflen := HLen.out f (List.mem_of_getElem? hf)
        have FW : FileAt wr lab pp.2 (A.fa pp.2) f := (H.out.files _ f hf).same (fun k p hl _ => JJ.out.frm.block k (H.out.base k p hl).2 id)
        have hstep : ((inOrder l).take (q + 1)).map (fun p => plain p.1 ⟨(D.file p.2).seen, (D.file p.2).badSeen⟩) = (((inOrder l).take q)).map (fun p => plain p.1 ⟨(D.file p.2).seen, (D.file p.2).badSeen⟩) ++ [plain pp.1 ⟨f.seen, f.badSeen⟩] := by
          rw [List.take_succ_eq_append_getElem hqi, List.map_append, ← hpp, ← hDf]; rfl
        obtain ⟨done, hdone⟩ : ∃ x, x = (((inOrder l).take q)).map (fun p => plain p.1 ⟨(D.file p.2).seen, (D.file p.2).badSeen⟩) := ⟨_, rfl⟩
        have hdn : done.length = q := by rw [hdone]; simp; omega
        rw [← hdone] at hstep JJ
        obtain ⟨gl, rfl, hc2, hgl⟩ : ∃ gl, p2 = some ⟨gl, 0, none⟩ ∧ l.length ≤ c2 ∧ wr.cell? ⟨gl, q, none⟩ = some (.string pp.1) := by
          obtain ⟨g, c', hv, h1, h2, h3⟩ := row_shape JJ.out.list (by omega)
          simp only [Value.slice.injEq, true_and] at hv
          obtain ⟨rfl, rfl⟩ := hv
          refine ⟨g, rfl, h1, ?_⟩
          rw [JJ.out.list.cellAt q (by omega), hpp]
          unfold strs
          rw [List.getElem?_map, List.getElem?_eq_getElem hqi]; rfl
        have hNw : NamesAt wr A.nm l A := by have := H.out.names.same (w' := wr) (JJ.out.frm.block _ (names_lt H.out.names) id); rw [HL.out]; exact this
        obtain ⟨l', hp', hm'⟩ := hNw
        have hlk := look_names hp' HNS.out.names A pp.1
        rw [(find_iff HNS.out.names pp.1 pp.2).2 hpl] at hlk
        have lkd : (Instr.lookup 96 (.map (some A.nm)) (.string pp.1) false).run Tryz.prog wr.drew = .ok (.pointer (some ⟨(A.fa pp.2).fb, 0, none⟩)) wr.drew := by
          have hm2 : MapAt Value.string wr.drew A.nm (l'.map fun p => (p.1, fptr A p.2)) := hm'.of_block rfl
          have := hm2.lookup kS Tryz.underlying96 (zP _) pp.1 false
          rw [this, hlk]; rfl
        have c0 : wr.cell? ⟨b, 0, none⟩ = some (.map (some A.nm)) := (JJ.out.frm.cell blt id).trans (main_cell H.out.blk rfl)
        have k1 : wr.cell? ⟨(A.fa pp.2).fb, 1, none⟩ = some (A.fa pp.2).sd := cell_of FW.blk rfl
        have k2 : wr.cell? ⟨(A.fa pp.2).fb, 2, none⟩ = some (.map (some (A.fa pp.2).sb)) := cell_of FW.blk rfl
        have hsd : wr.ownsRow 0 5 1 (A.fa pp.2).sd f.seen.length (u8s f.seen) := FW.seen.row
        have hsb := FW.badSeen
        generalize hfb : (A.fa pp.2).fb = fb at *
        generalize hsdv : (A.fa pp.2).sd = dv at *
        generalize hsbv : (A.fa pp.2).sb = m at *
        generalize hnm : pp.1 = nm at *
        obtain ⟨ci, hivs⟩ : ∃ A ci, iv = .slice A done.length ci := by
          obtain ⟨A, ci, e, _⟩ := Kd.R_reads JJ.out.rows
          exact ⟨A, ci, e⟩
        obtain ⟨ci2, rfl⟩ := hivs
        rw [hdn] at JJ
        have KEYP := Lib.hid (plain_calls (w := wr.drew) nm dv f.seen m f.badSeen (Lies.of_own (w := wr.drew) hsd) (hsb.same rfl) hfok.bseen (by omega))
        have imc : wr.cell? ⟨w.heap.size + 1, 0, none⟩ = some (.slice ci q ci2) := cell_of JJ.out.img rfl
        have imf : wr.frozen? ⟨w.heap.size + 1, 0, none⟩ = false := frozen_of JJ.out.img
        have hwr3 : w.heap.size ≤ wr.heap.size := JJ.out.frm.size
        have hiv : ∀ g, (Value.slice ci q ci2).ownBlock = some g → g < wr.heap.size := fun g hg => by
          obtain ⟨inner, ho⟩ := Kd.R_own JJ.out.rows
          exact (own_low ho hg).2
        have hne2 : some (w.heap.size + 1) ≠ (Value.slice ci q ci2).ownBlock := by
          obtain ⟨inner, ho⟩ := Kd.R_own JJ.out.rows
          exact own_ne_cells ho JJ.out.img (by decide)
        have HNe2 := Lib.hid hne2
        have HIv := Lib.hid hiv
        clear hne2
        have HSTP := Lib.hid (And.intro hstep (And.intro hdn hqi))
        have hlbytes : (done.length + 1) * 64 ≤ 140737488355328 := by rw [hdn]; omega
        clear hiv hstep hdn hlk hsd hsb hfok hflen hdone hnm hpp hpl hid hf hDf hfb hsdv hsbv FW hm' hp'
        go_wp2_with fail
        go_region_law ((first
          | ((with_reducible rw [if_pos (show Region.wanted _ _ = true from by simp [Region.wanted])]); go_simp; (with_reducible refine KEYP.out.mono ?_); rintro e w1 ⟨dv', bv', rfl, hd', hb', hf'⟩; have imb1 := (hf'.block (w.heap.size + 1) (Da.blk_lt JJ.out.img) id).trans JJ.out.img; have im1 : w1.cell? ⟨w.heap.size + 1, 0, none⟩ = some (.slice ci q ci2) := cell_of imb1 rfl; have im2 : (w1.alloc (.cells #[.string nm, dv', bv'] 95)).cell? ⟨w.heap.size + 1, 0, none⟩ = some (.slice ci q ci2) := cell_alloc im1; have HP1 := Lib.hid (And.intro hd' (And.intro hb' hf')); clear hd' hb' hf' imb1)
          | (refine Kd.R_append_step fileK (w0 := w) (W := w1) w.heap.size (by simp [Region.wanted]) (.tmp 26) (.tmp 38) _ 95 _ 64 rfl Tryz.underlying22 fileInfo rfl (by rw [fileK_sz]; omega) (by omega) (.slice ci q ci2) done (plain nm ⟨f.seen, f.badSeen⟩) [.string nm, dv', bv'] (fun _ => True) (fun k => wr.heap.size ≤ k) rfl rfl (fileK_M' HP1.out.1 HP1.out.2.1 hwr3) (fun k hk => ⟨trivial, fun e => by have := HIv.out k e.symm; omega⟩) (fun _ _ => trivial) (Kd.R_step JJ.out.rows (fun k _ hk => HP1.out.2.2.block k hk id)) ((JJ.out.frm.drew.trans HP1.out.2.2 (fun _ _ h => h)).below (fun _ h => h.elim) (Nat.le_refl _)) (Nat.le_trans hwr3 HP1.out.2.2.size) hlbytes ?_; intro v2 w2 hR2 hB2 hg2 hat2; obtain ⟨A2, ci3, hv2, _, _⟩ := Kd.R_reads hR2; subst hv2; have imb2 := (hg2.block (w.heap.size + 1) (by have := Da.blk_lt JJ.out.img; have := HP1.out.2.2.size; simp at this; omega) HNe2.out).trans ((HP1.out.2.2.block (w.heap.size + 1) (Da.blk_lt JJ.out.img) id).trans JJ.out.img); have im3 : w2.cell? ⟨w.heap.size + 1, 0, none⟩ = some (.slice ci q ci2) := cell_of imb2 rfl; have im4 : w2.frozen? ⟨w.heap.size + 1, 0, none⟩ = false := frozen_of imb2; have HP2 := Lib.hid (And.intro hR2 (And.intro hB2 (And.intro hg2 (And.intro hat2 imb2)))); clear hR2 hB2 hg2 hat2 imb2)))
        all_goals
          go_wp2_with fail
          have hR := HP2.out.1
          simp only [List.length_append, List.length_singleton] at hR
          refine ⟨⟨q + 1, .slice A2 (done.length + 1) ci3, by go_num, by omega, ?_⟩, by simp [intOf]; omega⟩
          rw [HSTP.out.1]
          exact JJ.out.step (by omega) (by omega) ((Frm.refl (fun _ => False) wr).drew.trans HP1.out.2.2 (fun _ _ h => h)) HP2.out.2.2.1 hR
      · obtain rfl : q = l.length := by omega
        have imc : wr.cell? ⟨w.heap.size + 1, 0, none⟩ = some iv := cell_of JJ.out.img rfl
        obtain ⟨ci, ci2, hiv, _⟩ := Kd.R_reads JJ.out.rows
        subst hiv
        have r0 := cell_of (i := 0) JJ.out.res rfl
        have q0 := frozen_of (i := 0) JJ.out.res
        have hall : ((inOrder l).take l.length) = inOrder l := List.take_of_length_le (by omega)
        rw [hall] at JJ
        have hrows := JJ.out.rows
        have hres := JJ.out.res
        have HRow := Lib.hid (And.intro hrows hres)
        clear hrows hres hall
        go_wp2_with fail
        obtain ⟨hrows, hres⟩ := HRow.out
        have el : ((inOrder l).map fun p => plain p.1 ⟨(D.file p.2).seen, (D.file p.2).badSeen⟩).length = l.length := by simp [hil]
        rw [el] at hrows
        have kf := blk_set (i := 0) (v := .slice ci l.length ci2) hres
        have y0 := cell_of (i := 0) kf rfl
        refine bodyPost_ret (v := .agg #[.slice ci l.length ci2]) (by simp [results, Tryz.results24, go_sem, y0]) rfl ⟨_, rfl, ImgAt.of ?_, ?_⟩
        · exact Kd.R_set hrows hres (fun q hq => by rcases img_types hq with rfl | rfl | rfl <;> decide) _ _
        · exact JJ.out.frm.setCell _ _ (fun h => absurd h (by simp))
end Go.Proofs.YtpckkdjdjkjapaaGreatDoor.Dw
