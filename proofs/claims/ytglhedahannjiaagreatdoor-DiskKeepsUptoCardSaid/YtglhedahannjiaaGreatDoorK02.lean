/- A part of the proof of diskKeepsUpto_holds: LawKeeps. No condition. -/
import Derived.Test.YtglhedahannjiaaGreatDoorK01

/- Walks: DiskKeeps (printed by wip/tools/gen_keeps.py). -/
namespace Go.Proofs.YtglhedahannjiaaGreatDoor.Dw
open Go.RowKit Go.ChangeMaps Go.Proofs.YtglhedahannjiaaGreatDoor.Mp Go.Proofs.YtglhedahannjiaaGreatDoor.Dm Go.Proofs.YtglhedahannjiaaGreatDoor.Da
open Go.Proofs.YtglhedahannjiaaGreatDoorW.PrintWords (Kd ReadsInt)
open Go.Proofs.YtglhedahannjiaaGreatDoorW.PrintLast
set_option linter.unusedVariables false
set_option linter.unusedSimpArgs false
set_option linter.unusedSectionVars false
theorem str_append2 (xs ys : List Int) : strOfNums (xs ++ ys) = strOfNums xs ++ strOfNums ys := by
  apply ByteArray.ext
  apply Array.toList_inj.1
  rw [ByteArray.data_append, Array.toList_append, strOfNums_data, strOfNums_data, strOfNums_data, List.map_append]
theorem Next.askSkip {B : Nat} {w0 w w2 : World} {b : Nat} {lab : Nat → Option Lb} {eb : Nat → Addr} {n m m2 : Nat} {D : Disk} (h : Next B w0 lab w b eb l7 n m D) (hf : Frm (fun _ => False) w w2) (hd : DFit (n + 1) m2) (hm : m ≤ m2) : Next B w0 lab w2 b eb l7 (n + 1) m2 D := by
  obtain ⟨lab1, h1, h2, h3⟩ := h
  exact ⟨lab1, (h1.frm hf).grow (Nat.le_succ _) hm hd, h2.trans hf (fun _ _ h => h.elim), h3⟩
set_option maxHeartbeats 40000000 in
set_option maxRecDepth 100000 in
theorem law_keeps {w : World} {eb : Nat → Addr} (h15 : Errs15 w.heap.size w eb) {vi : Value} {l : List Plain} {As : Option Addr} {os : List OpS} {cs : Nat} (ha : ArgsOk w vi l As os cs) (hbad : ∀ p, p ∈ l → p.bad.length ≤ 1048576) (dx : List Int) (Ad : Option Addr) (cd : Nat) (hdx : ReadsInt w .u8 Ad dx.length dx) (hdr : ∀ x, x ∈ dx → 0 ≤ x ∧ x < 256) (hdc : dx.length ≤ cd) :
    Calls Tryz.prog 9 #[vi, .slice As os.length cs, .slice Ad dx.length cd] w fun e w' => e = .returned (.bool true) ∧ Frm (fun _ => False) w w' := by
  obtain ⟨Ai, ci, rfl, hci, hCi⟩ := id ha.img
  have KL : Hid (∀ W, Frm (fun _ => False) w W → Calls Tryz.prog 10 #[] W fun e w' => e = .returned (.bool true) ∧ Frm (fun _ => False) W w') := fun W hW => lives_calls ((h15.frm hW (fun _ h => h.elim)).up hW.size).errs
  have KB : Hid (∀ W, Frm (fun _ => False) w W → Calls Tryz.prog 22 #[.agg #[.slice Ai l.length ci]] W fun e w' => e = .returned (.int .i64 (imgBytes l : Nat)) ∧ Frm (fun _ => False) W w') :=
    fun W hW => bytes_calls W _ l (ha.img.frm hW) (by have := ha.len; omega) ha.data
  have H15 := Lib.hid h15
  have HA := Lib.hid (And.intro ha (And.intro hbad hCi))
  have HDX := Lib.hid (And.intro hdx hdr)
  clear h15 ha hbad hdx hdr hCi
  go_enter Tryz.func9, Tryz.ntmps9
  go_upto_region 1 with (fail)
  obtain ⟨w0, hw0⟩ : ∃ w0, w0 = w.alloc (.cells #[.slice Ai l.length ci] 36) := ⟨_, rfl⟩
  rw [← hw0]
  have f0 : Frm (fun _ => False) w w0 := by rw [hw0]; exact (Frm.refl _ _).alloc _
  have b0 : w0.heap[w.heap.size]? = some (.cells #[.slice Ai l.length ci] 36 (0, 0)) := by rw [hw0]; exact blk_alloc
  have H0 := Lib.hid (And.intro f0 b0)
  clear f0 b0 hw0
  go_upto_region 3 with (first
    | (go_at_call 10; refine (KL.out _ H0.out.1).mono ?_; rintro e w1 ⟨rfl, f1⟩; have F1 : Hid (Frm (fun _ => False) w0 w1) := Lib.hid f1; have x3 : w1.cell? ⟨w.heap.size, 0, none⟩ = some (.slice Ai l.length ci) := cell_of ((f1.block _ (Da.blk_lt H0.out.2) id).trans H0.out.2) rfl; clear f1))
  by_cases hbig : 1048576 < imgBytes l
  · go_wp2_with (first | (go_at_call 22; refine (KB.out _ (H0.out.1.trans F1.out (fun _ _ h => h))).mono ?_; rintro e w2 ⟨rfl, f2⟩; have F2 : Hid (Frm (fun _ => False) w1 w2) := Lib.hid f2; clear f2))
    go_ret
    exact ⟨rfl, (H0.out.1.trans F1.out (fun _ _ h => h)).trans F2.out (fun _ _ h => h)⟩
  by_cases hbd : 1048576 < dx.length
  · go_wp2_with (first | (go_at_call 22; refine (KB.out _ (H0.out.1.trans F1.out (fun _ _ h => h))).mono ?_; rintro e w2 ⟨rfl, f2⟩; have F2 : Hid (Frm (fun _ => False) w1 w2) := Lib.hid f2; clear f2))
    go_ret
    exact ⟨rfl, (H0.out.1.trans F1.out (fun _ _ h => h)).trans F2.out (fun _ _ h => h)⟩
  have hbig : imgBytes l ≤ 1048576 := Nat.le_of_not_lt hbig
  have hlen := imgBytes_len hbig
  have hmem := imgBytes_mem hbig
  have HSM := Lib.hid (And.intro hlen hmem)
  go_upto_region 6 with (first | (go_at_call 22; refine (KB.out _ (H0.out.1.trans F1.out (fun _ _ h => h))).mono ?_; rintro e w2 ⟨rfl, f2⟩; have F2 : Hid (Frm (fun _ => False) w1 w2) := Lib.hid f2; clear f2))
  obtain ⟨w3, hw3⟩ : ∃ w3, w3 = w2.alloc (.cells #[.slice none 0 0] 36) := ⟨_, rfl⟩
  rw [← hw3]
  obtain ⟨bx7, hbx7⟩ : ∃ bx7, bx7 = w2.heap.size := ⟨_, rfl⟩
  rw [← hbx7]
  obtain ⟨base, hbase⟩ : ∃ base, base = w3.heap.size := ⟨_, rfl⟩
  have f03 : Frm (fun _ => False) w w3 := by rw [hw3]; exact ((H0.out.1.trans F1.out (fun _ _ h => h)).trans F2.out (fun _ _ h => h)).alloc _
  have b7 : w3.heap[bx7]? = some (.cells #[.slice none 0 0] 36 (0, 0)) := by rw [hw3, hbx7]; exact blk_alloc
  have b3 : w3.heap[w.heap.size]? = some (.cells #[.slice Ai l.length ci] 36 (0, 0)) := by
    have f13 : Frm (fun _ => False) w0 w3 := by rw [hw3]; exact (F1.out.trans F2.out (fun _ _ h => h)).alloc _
    exact (f13.block _ (Da.blk_lt H0.out.2) id).trans H0.out.2
  have s7 : w.heap.size < bx7 := by rw [hbx7]; have := (F1.out.trans F2.out (fun _ _ h => h)).size; have := Da.blk_lt H0.out.2; omega
  have s3 : w3.heap.size = bx7 + 1 := by rw [hw3, hbx7]; simp
  have H3 := Lib.hid (And.intro f03 (And.intro b7 (And.intro b3 (And.intro s7 (And.intro s3 hbase)))))
  have hdl : ¬ (1048576 : Int) < (dx.length : Int) := by omega
  clear f03 b7 b3 s7 s3 hbase hw3 hbx7 H0 F1 F2 KL KB x3 hlen hmem hbd
  go_wp2
  go_loopw [8] (fun v wr => ∃ j iA ic, v = .int .i64 (j : Nat) ∧ j ≤ l.length ∧ Frm (fun k => k = bx7) w3 wr ∧ wr.heap[bx7]? = some (.cells #[.slice iA j ic] 36 (0, 0)) ∧ Mine wr base (l.take j) (.slice iA j ic)) (fun v _ => l.length - (intOf v).toNat)
  case atStart => exact ⟨0, none, 0, rfl, Nat.zero_le _, Frm.refl _ _, H3.out.2.1, by rw [List.take_zero]; exact Mine.nil _ _⟩
  case round =>
    obtain ⟨j, iA, ic, rfl, hj, hf, hb7, hM⟩ := hrel
    have s7 := H3.out.2.2.2.1
    have s3 := H3.out.2.2.2.2.1
    have hbase := H3.out.2.2.2.2.2
    have b3r : wr.heap[w.heap.size]? = some (.cells #[.slice Ai l.length ci] 36 (0, 0)) := (hf.block _ (Da.blk_lt H3.out.2.2.1) (by omega)).trans H3.out.2.2.1
    have x3 : wr.cell? ⟨w.heap.size, 0, none⟩ = some (.slice Ai l.length ci) := cell_of b3r rfl
    have fw : Frm (fun _ => False) w wr := H3.out.1.trans hf (fun k hk e => by omega)
    by_cases hlt : j < l.length
    · obtain ⟨p, hp⟩ : ∃ p, l[j]? = some p := ⟨_, List.getElem?_eq_getElem hlt⟩
      obtain ⟨ad, B1, d1, B2, d2, rfl, k0, k1, k2, kb1, kb2, kl2, _⟩ := img_cells (Kd.C_below HA.out.2.2 (fw.below (fun _ h => h.elim) (Nat.le_refl _))) hp
      have hpl : p ∈ l := List.mem_of_getElem? hp
      have hpd : p.data.length ≤ 1048576 := Nat.le_trans (HSM.out.2 p hpl) hbig
      have hpb : p.bad.length ≤ 1048576 := HA.out.2.1 p hpl
      have hjc : j < ci := by omega
      have HR := Lib.hid (And.intro hf (And.intro hb7 (And.intro hM (And.intro fw (And.intro b3r hp)))))
      have HB1 := Lib.hid (And.intro kb1 kb2)
      clear hf hb7 hM fw b3r kb1 kb2 hpl hp
      as_aux_lemma =>
      go_upto_region 10 with (fail)
      obtain ⟨w4, hw4⟩ : ∃ w4, w4 = wr.alloc (.cells #[.string p.name, .slice B1 p.data.length d1, .slice B2 p.bad.length d2] 41) := ⟨_, rfl⟩
      rw [← hw4]
      have f4 : Frm (fun _ => False) wr w4 := by rw [hw4]; exact (Frm.refl _ _).alloc _
      have b9 : w4.heap[wr.heap.size]? = some (.cells #[.string p.name, .slice B1 p.data.length d1, .slice B2 p.bad.length d2] 41 (0, 0)) := by rw [hw4]; exact blk_alloc
      have b7 : w4.heap[bx7]? = some (.cells #[.slice iA j ic] 36 (0, 0)) := (f4.block _ (Da.blk_lt HR.out.2.1) id).trans HR.out.2.1
      have fd : Frm (fun _ => False) w4 w4.drew := (Frm.refl _ _).drew
      have zz : Hid (∀ W, Frm (fun _ => False) w4 W → W.cell? ⟨bx7, 0, none⟩ = some (.slice iA j ic) ∧ W.cell? ⟨wr.heap.size, 0, none⟩ = some (.string p.name) ∧ W.cell? ⟨wr.heap.size, 1, none⟩ = some (.slice B1 p.data.length d1) ∧ W.cell? ⟨wr.heap.size, 2, none⟩ = some (.slice B2 p.bad.length d2)) := fun W h =>
        ⟨cell_of ((h.block _ (Da.blk_lt b7) id).trans b7) rfl, cell_of ((h.block _ (Da.blk_lt b9) id).trans b9) rfl, cell_of ((h.block _ (Da.blk_lt b9) id).trans b9) rfl, cell_of ((h.block _ (Da.blk_lt b9) id).trans b9) rfl⟩
      have HB8 : Hid (∀ W, Frm (fun _ => False) w4 W → ∀ (j : Nat) (u : Value), (u8s p.data)[j]? = some u → ∃ ad, B1 = some ad ∧ W.cell? (ad.add j) = some u) := fun W h j u hu => by
        obtain ⟨q, c, e, hc⟩ := HB1.out.1
        obtain ⟨rfl, rfl⟩ : B1 = q ∧ d1 = c := by simpa using e
        obtain ⟨a, e2, h2⟩ := hc j u hu
        exact ⟨a, e2, frm_cell (f4.trans h (fun _ _ h => h)) h2⟩
      have HB64 : Hid (∀ W, Frm (fun _ => False) w4 W → ∀ (j : Nat) (u : Value), (i64s p.bad)[j]? = some u → ∃ ad, B2 = some ad ∧ W.cell? (ad.add j) = some u) := fun W h j u hu => by
        have hjl : j < p.bad.length := by have := (List.getElem?_eq_some_iff.1 hu).1; simpa [i64s] using this
        obtain ⟨a, e2, h2⟩ := HB1.out.2 j hjl
        refine ⟨a, e2, frm_cell (f4.trans h (fun _ _ h => h)) (h2.trans ?_)⟩
        rw [← hu]; simp [i64s, hjl]
      obtain ⟨i8, hi8, hz8, hz81, hz82⟩ := info_parts byteInfo
      obtain ⟨i64, hi64, hz64, hz641, hz642⟩ := info_parts intInfo
      have hb8m : 1 + p.data.length ≤ maxLen := by simp only [maxLen]; omega
      have hb64m : 1 + p.bad.length ≤ maxLen := by simp only [maxLen]; omega
      have hsz4 : base ≤ w4.heap.size := by have := f4.size; have := HR.out.1.size; omega
      have zb : Hid (∀ W, Frm (fun _ => False) w4 W → W.heap[bx7]? = some (.cells #[.slice iA j ic] 36 (0, 0)) ∧ W.heap[wr.heap.size]? = some (.cells #[.string p.name, .slice B1 p.data.length d1, .slice B2 p.bad.length d2] 41 (0, 0))) := fun W h =>
        ⟨(h.block _ (Da.blk_lt b7) id).trans b7, (h.block _ (Da.blk_lt b9) id).trans b9⟩
      obtain ⟨inner, hin1, hin2⟩ := HR.out.2.2.1.row
      have htk : (l.take j).length = j := by rw [List.length_take]; omega
      rw [htk] at hin1
      have HIN := Lib.hid (And.intro hin1 hin2)
      obtain ⟨iF, hiF, hzF, hsF, hbF⟩ := info_parts fileInfo
      have hn8 : (1 : Int) ≤ 1 + (p.data.length : Int) := by omega
      have hn64 : (1 : Int) ≤ 1 + (p.bad.length : Int) := by omega
      have hjb : j ≤ 1048576 := by have := HSM.out.1; omega
      have S0 := zz.out _ fd
      clear k0 k1 k2 x3 hw4 hin1 hin2 htk
      refine start_ (n := 20) (S := fun w' => w'.cell? ⟨bx7, 0, none⟩ = some (.slice iA j ic) ∧ w'.cell? ⟨wr.heap.size, 0, none⟩ = some (.string p.name) ∧ w'.cell? ⟨wr.heap.size, 1, none⟩ = some (.slice B1 p.data.length d1) ∧ w'.cell? ⟨wr.heap.size, 2, none⟩ = some (.slice B2 p.bad.length d2)) (ds := [19]) #[false, false, false, false, false, false, false, false, false, false, false, false, false, false, false, false, false, false, false, false] (by kernel_rfl) rfl rfl ⟨(zz.out _ fd).1, (zz.out _ fd).2.1, (zz.out _ fd).2.2.1, (zz.out _ fd).2.2.2⟩ (fun hHeld => ?_)
      refine pure_ (i := 0) (N := some 55) (v := ?_) (a' := ?_) #[true, false, false, false, false, false, false, false, false, false, false, false, false, false, false, false, false, false, false, false] rfl rfl (by kernel_rfl) (fun _ _ _ h => h) (Or.inl ⟨by rfl, ?_⟩) ?_ ?_
      rotate_left
      · intro w'
        go_simp
        with_reducible rfl
      rotate_left
      · simp only [Act.put, List.setIfInBounds_toArray, List.set_cons_zero, List.set_cons_succ, i64_w, i32_w]
        rfl
      refine pure_ (i := 2) (N := some 57) (v := ?_) (a' := ?_) #[true, false, true, false, false, false, false, false, false, false, false, false, false, false, false, false, false, false, false, false] rfl rfl (by kernel_rfl) (fun _ _ _ h => h) (Or.inl ⟨by rfl, ?_⟩) ?_ ?_
      rotate_left
      · intro w'
        go_simp
        with_reducible rfl
      rotate_left
      · simp only [Act.put, List.setIfInBounds_toArray, List.set_cons_zero, List.set_cons_succ, i64_w, i32_w]
        rfl
      refine pure_ (i := 6) (N := some 61) (v := ?_) (a' := ?_) #[true, false, true, false, false, false, true, false, false, false, false, false, false, false, false, false, false, false, false, false] rfl rfl (by kernel_rfl) (fun _ _ _ h => h) (Or.inl ⟨by rfl, ?_⟩) ?_ ?_
      rotate_left
      · intro w'
        go_simp
        with_reducible rfl
      rotate_left
      · simp only [Act.put, List.setIfInBounds_toArray, List.set_cons_zero, List.set_cons_succ, i64_w, i32_w]
        rfl
      refine pure_ (i := 11) (N := some 66) (v := ?_) (a' := ?_) #[true, false, true, false, false, false, true, false, false, false, false, true, false, false, false, false, false, false, false, false] rfl rfl (by kernel_rfl) (fun _ _ _ h => h) (Or.inl ⟨by rfl, ?_⟩) ?_ ?_
      rotate_left
      · intro w'
        go_simp
        with_reducible rfl
      rotate_left
      · simp only [Act.put, List.setIfInBounds_toArray, List.set_cons_zero, List.set_cons_succ, i64_w, i32_w]
        rfl
      refine take_ (i := 1) (N := some 56) (v := ?_) (a' := ?_) #[true, true, true, false, false, false, true, false, false, false, false, true, false, false, false, false, false, false, false, false] rfl rfl (by kernel_rfl) (fun _ _ _ h => h) (Or.inl ⟨by rfl, ?_⟩) hHeld ?_ ?_
      rotate_left
      · rintro w' ⟨s0, s1, s2, s3⟩
        go_simp
        with_reducible rfl
      rotate_left
      · simp only [Act.put, List.setIfInBounds_toArray, List.set_cons_zero, List.set_cons_succ, i64_w, i32_w]
        rfl
      refine take_ (i := 3) (N := some 58) (v := ?_) (a' := ?_) #[true, true, true, true, false, false, true, false, false, false, false, true, false, false, false, false, false, false, false, false] rfl rfl (by kernel_rfl) (fun _ _ _ h => h) (Or.inl ⟨by rfl, ?_⟩) hHeld ?_ ?_
      rotate_left
      · rintro w' ⟨s0, s1, s2, s3⟩
        go_simp
        with_reducible rfl
      rotate_left
      · simp only [Act.put, List.setIfInBounds_toArray, List.set_cons_zero, List.set_cons_succ, i64_w, i32_w]
        rfl
      refine take_ (i := 7) (N := some 62) (v := ?_) (a' := ?_) #[true, true, true, true, false, false, true, true, false, false, false, true, false, false, false, false, false, false, false, false] rfl rfl (by kernel_rfl) (fun _ _ _ h => h) (Or.inl ⟨by rfl, ?_⟩) hHeld ?_ ?_
      rotate_left
      · rintro w' ⟨s0, s1, s2, s3⟩
        go_simp
        with_reducible rfl
      rotate_left
      · simp only [Act.put, List.setIfInBounds_toArray, List.set_cons_zero, List.set_cons_succ, i64_w, i32_w]
        rfl
      refine take_ (i := 12) (N := some 67) (v := ?_) (a' := ?_) #[true, true, true, true, false, false, true, true, false, false, false, true, true, false, false, false, false, false, false, false] rfl rfl (by kernel_rfl) (fun _ _ _ h => h) (Or.inl ⟨by rfl, ?_⟩) hHeld ?_ ?_
      rotate_left
      · rintro w' ⟨s0, s1, s2, s3⟩
        go_simp
        with_reducible rfl
      rotate_left
      · simp only [Act.put, List.setIfInBounds_toArray, List.set_cons_zero, List.set_cons_succ, i64_w, i32_w]
        rfl
      refine join_ (σ := Nat × Nat × Nat × Nat × Option Addr) 7 #[true, true, true, true, true, true, true, true, true, true, true, true, true, false, false, false, false, false, false, false] (fun s => [(59, .slice (some ⟨s.1, 0, none⟩) 1 1), (60, .slice (some ⟨s.1, 0, none⟩) 1 1), (63, .slice (some ⟨s.2.1, 0, none⟩) (1 + p.data.length) s.2.2.1), (64, .slice s.2.2.2.2 p.data.length (s.2.2.1 - 1)), (65, .slice (some ⟨s.2.2.2.1, 0, none⟩) 1 1)]) (fun s w' => Frm (fun _ => False) w4 w' ∧ Tail1 w' base 5 (u8s p.data) (.slice s.2.2.2.2 p.data.length (s.2.2.1 - 1)) ∧ w'.cell? ⟨s.2.2.2.1, 0, none⟩ = some (.int .i64 (-1))) ?_ ?_
      rotate_left
      · intro hCont
        refine two_ (i := 4) (j := 10) (Ni := some 59) (Nj := some 65) #[true, true, true, true, true, false, true, true, false, false, false, true, true, false, false, false, false, false, false, false] #[true, true, true, true, false, false, true, true, false, false, true, true, true, false, false, false, false, false, false, false] rfl rfl rfl rfl (by kernel_rfl) (by decide) (by decide) (fun K hK => ?_) (fun K hK => ?_)
        · skip
          refine value_ (w1 := ?_) (v := ?_) (by rfl) rfl ?_ ?_
          rotate_left 2
          · go_simp
            constructor
            · rfl
            · rfl
          obtain ⟨u4, hu4⟩ : ∃ u, u = (World.alloc w4 (.cells #[.int .u8 46] 5)).drew := ⟨_, rfl⟩
          rw [← hu4]
          have t4 : Frm (fun _ => False) w4 u4 := by rw [hu4]; exact ((Frm.refl _ _).alloc _).drew
          have b4 : u4.heap[w4.heap.size]? = some (.cells #[.int .u8 46] 5 (0, 0)) := by rw [hu4]; exact blk_alloc
          have z4 : w4.heap.size < u4.heap.size := by rw [hu4]; simp
          have f4 : Frm (fun _ => False) w4 u4 := (Frm.refl (fun _ => False) w4).trans t4 (fun _ _ h => h)
          clear hu4
          refine hK.out _ _ ⟨(zz.out _ f4).1, (zz.out _ f4).2.1, (zz.out _ f4).2.2.1, (zz.out _ f4).2.2.2⟩ (fun hHeld => ?_)
          clear hK K
          refine norm_ (a' := ?_) ?_ ?_
          rotate_left
          · show Act.put _ (some 59) _ = _
            simp only [Act.put, List.setIfInBounds_toArray, List.set_cons_zero, List.set_cons_succ, i64_w, i32_w]
            rfl
          refine two_ (i := 5) (j := 10) (Ni := some 60) (Nj := some 65) #[true, true, true, true, true, true, true, true, false, false, false, true, true, false, false, false, false, false, false, false] #[true, true, true, true, true, false, true, true, false, false, true, true, true, false, false, false, false, false, false, false] rfl rfl rfl rfl (by kernel_rfl) (by decide) (by decide) (fun K hK => ?_) (fun K hK => ?_)
          · skip
            obtain ⟨u5, e5, t5, s5, n5⟩ := conv_mark (n := 1) (c := 1) (b4)
            have c5 : u5.cell? ⟨w4.heap.size, 0, none⟩ = some (.int .u8 46) := n5 0
            clear s5 n5
            refine value_ (w1 := ?_) (v := ?_) (by rfl) rfl ?_ ?_
            rotate_left 2
            · go_simp
              constructor
              · rfl
              · rfl
            clear e5
            have f5 : Frm (fun _ => False) w4 u5 := f4.trans t5 (fun k hk e => by have := (Frm.refl (fun _ => False) w4).size; omega)
            refine hK.out _ _ ⟨(zz.out _ f5).1, (zz.out _ f5).2.1, (zz.out _ f5).2.2.1, (zz.out _ f5).2.2.2⟩ (fun hHeld => ?_)
            clear hK K
            refine norm_ (a' := ?_) ?_ ?_
            rotate_left
            · show Act.put _ (some 60) _ = _
              simp only [Act.put, List.setIfInBounds_toArray, List.set_cons_zero, List.set_cons_succ, i64_w, i32_w]
              rfl
            refine two_ (i := 8) (j := 10) (Ni := some 63) (Nj := some 65) #[true, true, true, true, true, true, true, true, true, false, false, true, true, false, false, false, false, false, false, false] #[true, true, true, true, true, true, true, true, false, false, true, true, true, false, false, false, false, false, false, false] rfl rfl rfl rfl (by kernel_rfl) (by decide) (by decide) (fun K hK => ?_) (fun K hK => ?_)
            · skip
              refine step_dot (by rfl) (.tmp 60) (.tmp 62) 22 5 rfl Tryz.underlying22 hi8 hz8 1 hz81 hz82 rfl _ (.int .u8 46) _ _ _ (u8s p.data) rfl rfl c5 (by simp [u8s]) (HB8.out _ f5) hb8m (by omega) ?_
              intro p8 c8 u8 hd8
              have t8 := hd8.frm
              have f8 : Frm (fun _ => False) w4 u8 := f5.trans t8 (fun _ _ h => h)
              obtain ⟨A8, hA8⟩ : ∃ A, (if c8 = 1 then some (⟨p8, 0, none⟩ : Addr) else some ⟨p8, 1, none⟩) = A := ⟨_, rfl⟩
              have q8 := hd8.len
              refine hK.out _ _ ⟨(zz.out _ f8).1, (zz.out _ f8).2.1, (zz.out _ f8).2.2.1, (zz.out _ f8).2.2.2⟩ (fun hHeld => ?_)
              clear hK K
              refine norm_ (a' := ?_) ?_ ?_
              rotate_left
              · show Act.put _ (some 63) _ = _
                simp only [Act.put, List.setIfInBounds_toArray, List.set_cons_zero, List.set_cons_succ, i64_w, i32_w]
                rfl
              refine pure_ (i := 9) (N := some 64) (v := ?_) (a' := ?_) #[true, true, true, true, true, true, true, true, true, true, false, true, true, false, false, false, false, false, false, false] rfl rfl (by kernel_rfl) (fun _ _ _ h => h) (Or.inl ⟨by rfl, ?_⟩) ?_ ?_
              rotate_left
              · intro w'
                go_simp
                with_reducible rfl
              rotate_left
              · simp only [Act.put, List.setIfInBounds_toArray, List.set_cons_zero, List.set_cons_succ, i64_w, i32_w]
                rfl
              refine one_ (i := 10) (N := some 65) #[true, true, true, true, true, true, true, true, true, true, true, true, true, false, false, false, false, false, false, false] rfl rfl (by kernel_rfl) (by decide) (fun K hK => ?_)
              refine value_ (w1 := ?_) (v := ?_) (by rfl) rfl ?_ ?_
              rotate_left 2
              · go_simp
                constructor
                · rfl
                · rfl
              obtain ⟨u10, hu10⟩ : ∃ u, u = World.alloc u8 (.cells #[.int .i64 (-1)] 3) := ⟨_, rfl⟩
              rw [← hu10]
              have t10 : Frm (fun _ => False) u8 u10 := by rw [hu10]; exact (Frm.refl _ _).alloc _
              have b10 : u10.heap[u8.heap.size]? = some (.cells #[.int .i64 (-1)] 3 (0, 0)) := by rw [hu10]; exact blk_alloc
              have z10 : u8.heap.size < u10.heap.size := by rw [hu10]; simp
              have f10 : Frm (fun _ => False) w4 u10 := f8.trans t10 (fun _ _ h => h)
              clear hu10
              refine hK.out _ _ ⟨(zz.out _ f10).1, (zz.out _ f10).2.1, (zz.out _ f10).2.2.1, (zz.out _ f10).2.2.2⟩ (fun hHeld => ?_)
              clear hK K
              refine norm_ (a' := ?_) ?_ ?_
              rotate_left
              · show Act.put _ (some 65) _ = _
                simp only [Act.put, List.setIfInBounds_toArray, List.set_cons_zero, List.set_cons_succ, i64_w, i32_w]
                rfl
              exact norm_ (by simp only [putAll, Act.put, List.setIfInBounds_toArray, List.set_cons_zero, List.set_cons_succ]) (hCont ⟨w4.heap.size, p8, c8, u8.heap.size, A8⟩ _ (⟨f10, hd8.tail hA8 (by simp [u8s]) (Nat.le_trans hsz4 f5.size) t10, cell_of b10 rfl⟩))
            · skip
              refine value_ (w1 := ?_) (v := ?_) (by rfl) rfl ?_ ?_
              rotate_left 2
              · go_simp
                constructor
                · rfl
                · rfl
              obtain ⟨u10, hu10⟩ : ∃ u, u = World.alloc u5 (.cells #[.int .i64 (-1)] 3) := ⟨_, rfl⟩
              rw [← hu10]
              have t10 : Frm (fun _ => False) u5 u10 := by rw [hu10]; exact (Frm.refl _ _).alloc _
              have b10 : u10.heap[u5.heap.size]? = some (.cells #[.int .i64 (-1)] 3 (0, 0)) := by rw [hu10]; exact blk_alloc
              have z10 : u5.heap.size < u10.heap.size := by rw [hu10]; simp
              have f10 : Frm (fun _ => False) w4 u10 := f5.trans t10 (fun _ _ h => h)
              clear hu10
              refine hK.out _ _ ⟨(zz.out _ f10).1, (zz.out _ f10).2.1, (zz.out _ f10).2.2.1, (zz.out _ f10).2.2.2⟩ (fun hHeld => ?_)
              clear hK K
              refine norm_ (a' := ?_) ?_ ?_
              rotate_left
              · show Act.put _ (some 65) _ = _
                simp only [Act.put, List.setIfInBounds_toArray, List.set_cons_zero, List.set_cons_succ, i64_w, i32_w]
                rfl
              refine one_ (i := 8) (N := some 63) #[true, true, true, true, true, true, true, true, true, false, true, true, true, false, false, false, false, false, false, false] rfl rfl (by kernel_rfl) (by decide) (fun K hK => ?_)
              refine step_dot (by rfl) (.tmp 60) (.tmp 62) 22 5 rfl Tryz.underlying22 hi8 hz8 1 hz81 hz82 rfl _ (.int .u8 46) _ _ _ (u8s p.data) rfl rfl (frm_cell t10 c5) (by simp [u8s]) (HB8.out _ f10) hb8m (by omega) ?_
              intro p8 c8 u8 hd8
              have t8 := hd8.frm
              have f8 : Frm (fun _ => False) w4 u8 := f10.trans t8 (fun _ _ h => h)
              obtain ⟨A8, hA8⟩ : ∃ A, (if c8 = 1 then some (⟨p8, 0, none⟩ : Addr) else some ⟨p8, 1, none⟩) = A := ⟨_, rfl⟩
              have q8 := hd8.len
              refine hK.out _ _ ⟨(zz.out _ f8).1, (zz.out _ f8).2.1, (zz.out _ f8).2.2.1, (zz.out _ f8).2.2.2⟩ (fun hHeld => ?_)
              clear hK K
              refine norm_ (a' := ?_) ?_ ?_
              rotate_left
              · show Act.put _ (some 63) _ = _
                simp only [Act.put, List.setIfInBounds_toArray, List.set_cons_zero, List.set_cons_succ, i64_w, i32_w]
                rfl
              refine pure_ (i := 9) (N := some 64) (v := ?_) (a' := ?_) #[true, true, true, true, true, true, true, true, true, true, true, true, true, false, false, false, false, false, false, false] rfl rfl (by kernel_rfl) (fun _ _ _ h => h) (Or.inl ⟨by rfl, ?_⟩) ?_ ?_
              rotate_left
              · intro w'
                go_simp
                with_reducible rfl
              rotate_left
              · simp only [Act.put, List.setIfInBounds_toArray, List.set_cons_zero, List.set_cons_succ, i64_w, i32_w]
                rfl
              exact norm_ (by simp only [putAll, Act.put, List.setIfInBounds_toArray, List.set_cons_zero, List.set_cons_succ]) (hCont ⟨w4.heap.size, p8, c8, u5.heap.size, A8⟩ _ (⟨f8, hd8.tail hA8 (by simp [u8s]) (Nat.le_trans hsz4 f10.size) (Frm.refl _ _), frm_cell t8 (cell_of b10 rfl)⟩))
          · skip
            refine value_ (w1 := ?_) (v := ?_) (by rfl) rfl ?_ ?_
            rotate_left 2
            · go_simp
              constructor
              · rfl
              · rfl
            obtain ⟨u10, hu10⟩ : ∃ u, u = World.alloc u4 (.cells #[.int .i64 (-1)] 3) := ⟨_, rfl⟩
            rw [← hu10]
            have t10 : Frm (fun _ => False) u4 u10 := by rw [hu10]; exact (Frm.refl _ _).alloc _
            have b10 : u10.heap[u4.heap.size]? = some (.cells #[.int .i64 (-1)] 3 (0, 0)) := by rw [hu10]; exact blk_alloc
            have z10 : u4.heap.size < u10.heap.size := by rw [hu10]; simp
            have f10 : Frm (fun _ => False) w4 u10 := f4.trans t10 (fun _ _ h => h)
            clear hu10
            refine hK.out _ _ ⟨(zz.out _ f10).1, (zz.out _ f10).2.1, (zz.out _ f10).2.2.1, (zz.out _ f10).2.2.2⟩ (fun hHeld => ?_)
            clear hK K
            refine norm_ (a' := ?_) ?_ ?_
            rotate_left
            · show Act.put _ (some 65) _ = _
              simp only [Act.put, List.setIfInBounds_toArray, List.set_cons_zero, List.set_cons_succ, i64_w, i32_w]
              rfl
            refine one_ (i := 5) (N := some 60) #[true, true, true, true, true, true, true, true, false, false, true, true, true, false, false, false, false, false, false, false] rfl rfl (by kernel_rfl) (by decide) (fun K hK => ?_)
            obtain ⟨u5, e5, t5, s5, n5⟩ := conv_mark (n := 1) (c := 1) (((t10.block _ (Da.blk_lt b4) id).trans b4))
            have c5 : u5.cell? ⟨w4.heap.size, 0, none⟩ = some (.int .u8 46) := n5 0
            clear s5 n5
            refine value_ (w1 := ?_) (v := ?_) (by rfl) rfl ?_ ?_
            rotate_left 2
            · go_simp
              constructor
              · rfl
              · rfl
            clear e5
            have f5 : Frm (fun _ => False) w4 u5 := f10.trans t5 (fun k hk e => by have := (Frm.refl (fun _ => False) w4).size; omega)
            refine hK.out _ _ ⟨(zz.out _ f5).1, (zz.out _ f5).2.1, (zz.out _ f5).2.2.1, (zz.out _ f5).2.2.2⟩ (fun hHeld => ?_)
            clear hK K
            refine norm_ (a' := ?_) ?_ ?_
            rotate_left
            · show Act.put _ (some 60) _ = _
              simp only [Act.put, List.setIfInBounds_toArray, List.set_cons_zero, List.set_cons_succ, i64_w, i32_w]
              rfl
            refine one_ (i := 8) (N := some 63) #[true, true, true, true, true, true, true, true, true, false, true, true, true, false, false, false, false, false, false, false] rfl rfl (by kernel_rfl) (by decide) (fun K hK => ?_)
            refine step_dot (by rfl) (.tmp 60) (.tmp 62) 22 5 rfl Tryz.underlying22 hi8 hz8 1 hz81 hz82 rfl _ (.int .u8 46) _ _ _ (u8s p.data) rfl rfl c5 (by simp [u8s]) (HB8.out _ f5) hb8m (by omega) ?_
            intro p8 c8 u8 hd8
            have t8 := hd8.frm
            have f8 : Frm (fun _ => False) w4 u8 := f5.trans t8 (fun _ _ h => h)
            obtain ⟨A8, hA8⟩ : ∃ A, (if c8 = 1 then some (⟨p8, 0, none⟩ : Addr) else some ⟨p8, 1, none⟩) = A := ⟨_, rfl⟩
            have q8 := hd8.len
            refine hK.out _ _ ⟨(zz.out _ f8).1, (zz.out _ f8).2.1, (zz.out _ f8).2.2.1, (zz.out _ f8).2.2.2⟩ (fun hHeld => ?_)
            clear hK K
            refine norm_ (a' := ?_) ?_ ?_
            rotate_left
            · show Act.put _ (some 63) _ = _
              simp only [Act.put, List.setIfInBounds_toArray, List.set_cons_zero, List.set_cons_succ, i64_w, i32_w]
              rfl
            refine pure_ (i := 9) (N := some 64) (v := ?_) (a' := ?_) #[true, true, true, true, true, true, true, true, true, true, true, true, true, false, false, false, false, false, false, false] rfl rfl (by kernel_rfl) (fun _ _ _ h => h) (Or.inl ⟨by rfl, ?_⟩) ?_ ?_
            rotate_left
            · intro w'
              go_simp
              with_reducible rfl
            rotate_left
            · simp only [Act.put, List.setIfInBounds_toArray, List.set_cons_zero, List.set_cons_succ, i64_w, i32_w]
              rfl
            exact norm_ (by simp only [putAll, Act.put, List.setIfInBounds_toArray, List.set_cons_zero, List.set_cons_succ]) (hCont ⟨w4.heap.size, p8, c8, u4.heap.size, A8⟩ _ (⟨f8, hd8.tail hA8 (by simp [u8s]) (Nat.le_trans hsz4 f5.size) (Frm.refl _ _), frm_cell t8 ((World.cell?_of_block (t5.block _ (Da.blk_lt b10) (by show ¬ (u4.heap.size = w4.heap.size); omega))).trans (cell_of b10 rfl))⟩))
        · skip
          refine value_ (w1 := ?_) (v := ?_) (by rfl) rfl ?_ ?_
          rotate_left 2
          · go_simp
            constructor
            · rfl
            · rfl
          obtain ⟨u10, hu10⟩ : ∃ u, u = (World.alloc w4 (.cells #[.int .i64 (-1)] 3)).drew := ⟨_, rfl⟩
          rw [← hu10]
          have t10 : Frm (fun _ => False) w4 u10 := by rw [hu10]; exact ((Frm.refl _ _).alloc _).drew
          have b10 : u10.heap[w4.heap.size]? = some (.cells #[.int .i64 (-1)] 3 (0, 0)) := by rw [hu10]; exact blk_alloc
          have z10 : w4.heap.size < u10.heap.size := by rw [hu10]; simp
          have f10 : Frm (fun _ => False) w4 u10 := (Frm.refl (fun _ => False) w4).trans t10 (fun _ _ h => h)
          clear hu10
          refine hK.out _ _ ⟨(zz.out _ f10).1, (zz.out _ f10).2.1, (zz.out _ f10).2.2.1, (zz.out _ f10).2.2.2⟩ (fun hHeld => ?_)
          clear hK K
          refine norm_ (a' := ?_) ?_ ?_
          rotate_left
          · show Act.put _ (some 65) _ = _
            simp only [Act.put, List.setIfInBounds_toArray, List.set_cons_zero, List.set_cons_succ, i64_w, i32_w]
            rfl
          refine one_ (i := 4) (N := some 59) #[true, true, true, true, true, false, true, true, false, false, true, true, true, false, false, false, false, false, false, false] rfl rfl (by kernel_rfl) (by decide) (fun K hK => ?_)
          refine value_ (w1 := ?_) (v := ?_) (by rfl) rfl ?_ ?_
          rotate_left 2
          · go_simp
            constructor
            · rfl
            · rfl
          obtain ⟨u4, hu4⟩ : ∃ u, u = World.alloc u10 (.cells #[.int .u8 46] 5) := ⟨_, rfl⟩
          rw [← hu4]
          have t4 : Frm (fun _ => False) u10 u4 := by rw [hu4]; exact (Frm.refl _ _).alloc _
          have b4 : u4.heap[u10.heap.size]? = some (.cells #[.int .u8 46] 5 (0, 0)) := by rw [hu4]; exact blk_alloc
          have z4 : u10.heap.size < u4.heap.size := by rw [hu4]; simp
          have f4 : Frm (fun _ => False) w4 u4 := f10.trans t4 (fun _ _ h => h)
          clear hu4
          refine hK.out _ _ ⟨(zz.out _ f4).1, (zz.out _ f4).2.1, (zz.out _ f4).2.2.1, (zz.out _ f4).2.2.2⟩ (fun hHeld => ?_)
          clear hK K
          refine norm_ (a' := ?_) ?_ ?_
          rotate_left
          · show Act.put _ (some 59) _ = _
            simp only [Act.put, List.setIfInBounds_toArray, List.set_cons_zero, List.set_cons_succ, i64_w, i32_w]
            rfl
          refine one_ (i := 5) (N := some 60) #[true, true, true, true, true, true, true, true, false, false, true, true, true, false, false, false, false, false, false, false] rfl rfl (by kernel_rfl) (by decide) (fun K hK => ?_)
          obtain ⟨u5, e5, t5, s5, n5⟩ := conv_mark (n := 1) (c := 1) (b4)
          have c5 : u5.cell? ⟨u10.heap.size, 0, none⟩ = some (.int .u8 46) := n5 0
          clear s5 n5
          refine value_ (w1 := ?_) (v := ?_) (by rfl) rfl ?_ ?_
          rotate_left 2
          · go_simp
            constructor
            · rfl
            · rfl
          clear e5
          have f5 : Frm (fun _ => False) w4 u5 := f4.trans t5 (fun k hk e => by have := f10.size; omega)
          refine hK.out _ _ ⟨(zz.out _ f5).1, (zz.out _ f5).2.1, (zz.out _ f5).2.2.1, (zz.out _ f5).2.2.2⟩ (fun hHeld => ?_)
          clear hK K
          refine norm_ (a' := ?_) ?_ ?_
          rotate_left
          · show Act.put _ (some 60) _ = _
            simp only [Act.put, List.setIfInBounds_toArray, List.set_cons_zero, List.set_cons_succ, i64_w, i32_w]
            rfl
          refine one_ (i := 8) (N := some 63) #[true, true, true, true, true, true, true, true, true, false, true, true, true, false, false, false, false, false, false, false] rfl rfl (by kernel_rfl) (by decide) (fun K hK => ?_)
          refine step_dot (by rfl) (.tmp 60) (.tmp 62) 22 5 rfl Tryz.underlying22 hi8 hz8 1 hz81 hz82 rfl _ (.int .u8 46) _ _ _ (u8s p.data) rfl rfl c5 (by simp [u8s]) (HB8.out _ f5) hb8m (by omega) ?_
          intro p8 c8 u8 hd8
          have t8 := hd8.frm
          have f8 : Frm (fun _ => False) w4 u8 := f5.trans t8 (fun _ _ h => h)
          obtain ⟨A8, hA8⟩ : ∃ A, (if c8 = 1 then some (⟨p8, 0, none⟩ : Addr) else some ⟨p8, 1, none⟩) = A := ⟨_, rfl⟩
          have q8 := hd8.len
          refine hK.out _ _ ⟨(zz.out _ f8).1, (zz.out _ f8).2.1, (zz.out _ f8).2.2.1, (zz.out _ f8).2.2.2⟩ (fun hHeld => ?_)
          clear hK K
          refine norm_ (a' := ?_) ?_ ?_
          rotate_left
          · show Act.put _ (some 63) _ = _
            simp only [Act.put, List.setIfInBounds_toArray, List.set_cons_zero, List.set_cons_succ, i64_w, i32_w]
            rfl
          refine pure_ (i := 9) (N := some 64) (v := ?_) (a' := ?_) #[true, true, true, true, true, true, true, true, true, true, true, true, true, false, false, false, false, false, false, false] rfl rfl (by kernel_rfl) (fun _ _ _ h => h) (Or.inl ⟨by rfl, ?_⟩) ?_ ?_
          rotate_left
          · intro w'
            go_simp
            with_reducible rfl
          rotate_left
          · simp only [Act.put, List.setIfInBounds_toArray, List.set_cons_zero, List.set_cons_succ, i64_w, i32_w]
            rfl
          exact norm_ (by simp only [putAll, Act.put, List.setIfInBounds_toArray, List.set_cons_zero, List.set_cons_succ]) (hCont ⟨u10.heap.size, p8, c8, w4.heap.size, A8⟩ _ (⟨f8, hd8.tail hA8 (by simp [u8s]) (Nat.le_trans hsz4 f5.size) (Frm.refl _ _), frm_cell t8 ((World.cell?_of_block (t5.block _ (Da.blk_lt ((t4.block _ (Da.blk_lt b10) id).trans b10)) (by show ¬ (w4.heap.size = u10.heap.size); omega))).trans (frm_cell t4 (cell_of b10 rfl)))⟩))
      rintro ⟨g4, p8, c8, g10, A8⟩ u0 ⟨f0, ta8, c10⟩
      have hHeld := zz.out _ f0
      refine norm_ (a' := ?_) ?_ ?_
      rotate_left
      · simp only [putAll, Act.put, List.setIfInBounds_toArray, List.set_cons_zero, List.set_cons_succ]
        rfl
      refine one_ (i := 13) (N := some 68) #[true, true, true, true, true, true, true, true, true, true, true, true, true, true, false, false, false, false, false, false] rfl rfl (by kernel_rfl) (by decide) (fun K hK => ?_)
      refine step_dot (by rfl) (.tmp 65) (.tmp 67) 23 3 rfl Tryz.underlying23 hi64 hz64 8 hz641 hz642 rfl _ (.int .i64 (-1)) _ _ _ (i64s p.bad) rfl rfl c10 (by simp [i64s]) (HB64.out _ f0) hb64m (by omega) ?_
      intro p13 c13 u13 hd13
      have f13 : Frm (fun _ => False) w4 u13 := f0.trans hd13.frm (fun _ _ h => h)
      obtain ⟨A13, hA13⟩ : ∃ A, (if c13 = 1 then some (⟨p13, 0, none⟩ : Addr) else some ⟨p13, 1, none⟩) = A := ⟨_, rfl⟩
      have q13 := hd13.len
      have ta13 := ta8.keep (.inl rfl) (KeepN.of_frm hd13.frm (fun k h => h.elim))
      have tb13 := hd13.tail (W' := u13) (base := base) hA13 (by simp [i64s]) (Nat.le_trans hsz4 f0.size) (Frm.refl _ _)
      refine hK.out _ _ ⟨(zz.out _ f13).1, (zz.out _ f13).2.1, (zz.out _ f13).2.2.1, (zz.out _ f13).2.2.2⟩ (fun hHeld => ?_)
      clear hK K
      refine norm_ (a' := ?_) ?_ ?_
      rotate_left
      · show Act.put _ (some 68) _ = _
        simp only [Act.put, List.setIfInBounds_toArray, List.set_cons_zero, List.set_cons_succ, i64_w, i32_w]
        rfl
      refine pure_ (i := 14) (N := some 69) (v := ?_) (a' := ?_) #[true, true, true, true, true, true, true, true, true, true, true, true, true, true, true, false, false, false, false, false] rfl rfl (by kernel_rfl) (fun _ _ _ h => h) (Or.inl ⟨by rfl, ?_⟩) ?_ ?_
      rotate_left
      · intro w'
        go_simp
        with_reducible rfl
      rotate_left
      · simp only [Act.put, List.setIfInBounds_toArray, List.set_cons_zero, List.set_cons_succ, i64_w, i32_w]
        rfl
      refine pure_ (i := 15) (N := some 70) (v := ?_) (a' := ?_) #[true, true, true, true, true, true, true, true, true, true, true, true, true, true, true, true, false, false, false, false] rfl rfl (by kernel_rfl) (fun _ _ _ h => h) (Or.inl ⟨by rfl, ?_⟩) ?_ ?_
      rotate_left
      · intro w'
        go_simp
        with_reducible rfl
      rotate_left
      · simp only [Act.put, List.setIfInBounds_toArray, List.set_cons_zero, List.set_cons_succ, i64_w, i32_w]
        rfl
      refine one_ (i := 16) (N := some 71) #[true, true, true, true, true, true, true, true, true, true, true, true, true, true, true, true, true, false, false, false] rfl rfl (by kernel_rfl) (by decide) (fun K hK => ?_)
      refine value_ (w1 := ?_) (v := ?_) (by rfl) rfl ?_ ?_
      rotate_left 2
      · go_simp
        constructor
        · rfl
        · rfl
      obtain ⟨u16, hu16⟩ : ∃ u, u = World.alloc u13 (.cells #[.string p.name, .slice A8 p.data.length (c8 - 1), .slice A13 p.bad.length (c13 - 1)] 41) := ⟨_, rfl⟩
      rw [← hu16]
      have t16 : Frm (fun _ => False) u13 u16 := by rw [hu16]; exact (Frm.refl _ _).alloc _
      have b16 : u16.heap[u13.heap.size]? = some (.cells #[.string p.name, .slice A8 p.data.length (c8 - 1), .slice A13 p.bad.length (c13 - 1)] 41 (0, 0)) := by rw [hu16]; exact blk_alloc
      have f16 : Frm (fun _ => False) w4 u16 := f13.trans t16 (fun _ _ h => h)
      clear hu16
      refine hK.out _ _ ⟨(zz.out _ f16).1, (zz.out _ f16).2.1, (zz.out _ f16).2.2.1, (zz.out _ f16).2.2.2⟩ (fun hHeld => ?_)
      clear hK K
      refine norm_ (a' := ?_) ?_ ?_
      rotate_left
      · show Act.put _ (some 71) _ = _
        simp only [Act.put, List.setIfInBounds_toArray, List.set_cons_zero, List.set_cons_succ, i64_w, i32_w]
        rfl
      refine one_ (i := 17) (N := some 72) #[true, true, true, true, true, true, true, true, true, true, true, true, true, true, true, true, true, true, false, false] rfl rfl (by kernel_rfl) (by decide) (fun K hK => ?_)
      have hr16 := own_frm HIN.out.1 (f4.trans f16 (fun _ _ h => h))
      refine step_append_lies _ (by rfl) (.tmp 56) (.tmp 71) 34 rfl base 41 iF _ 3 64 Tryz.underlying34 hiF hzF hsF hbF rfl (by omega) (.slice iA j ic) j inner rfl hr16 ⟨u13.heap.size, 0, none⟩ 1 1 [.string p.name, .slice A8 p.data.length (c8 - 1), .slice A13 p.bad.length (c13 - 1)] rfl rfl (World.news_of_block b16) (by simp [Value.oneCell']) (by omega) (by simp only [maxLen]; omega) (by omega) (by have := f16.size; omega) u16.heap.size rfl ?_
      intro g17 c17 u17 hr17 hg17 hat17 hlt17
      have t17 := Frm.of_grown hg17
      have b717 := (t17.block _ (Da.blk_lt (zb.out _ f16).1) (own_ne_cells hr16 (zb.out _ f16).1 (by decide))).trans (zb.out _ f16).1
      have b917 := (t17.block _ (Da.blk_lt (zb.out _ f16).2) (fun e => absurd (own_low HIN.out.1 e.symm).2 (Nat.lt_irrefl _))).trans (zb.out _ f16).2
      have y17 : u17.cell? ⟨bx7, 0, none⟩ = some (.slice iA j ic) := cell_of b717 rfl
      have y17f : u17.frozen? ⟨bx7, 0, none⟩ = false := frozen_of b717
      refine hK.out _ _ ⟨y17, (cell_of b917 rfl), (cell_of b917 rfl), (cell_of b917 rfl)⟩ (fun hHeld => ?_)
      clear hK K
      refine norm_ (a' := ?_) ?_ ?_
      rotate_left
      · show Act.put _ (some 72) _ = _
        simp only [Act.put, List.setIfInBounds_toArray, List.set_cons_zero, List.set_cons_succ, i64_w, i32_w]
        rfl
      refine pure_ (i := 18) (N := some 73) (v := ?_) (a' := ?_) #[true, true, true, true, true, true, true, true, true, true, true, true, true, true, true, true, true, true, true, false] rfl rfl (by kernel_rfl) (fun _ _ _ h => h) (Or.inl ⟨by rfl, ?_⟩) ?_ ?_
      rotate_left
      · intro w'
        go_simp
        with_reducible rfl
      rotate_left
      · simp only [Act.put, List.setIfInBounds_toArray, List.set_cons_zero, List.set_cons_succ, i64_w, i32_w]
        rfl
      refine last_ (i := 19) (N := none) #[true, true, true, true, true, true, true, true, true, true, true, true, true, true, true, true, true, true, true, true] rfl rfl (by kernel_rfl) (by decide) (fun K hK => ?_)
      refine skip_ (w1 := ?_) (by rfl) rfl ?_ ?_
      rotate_left
      · go_simp
        rfl
      refine hK.out _ _ ?_
      clear hK K
      refine done_ (by kernel_rfl) ?_
      go_wp2
      have fwr : Frm (fun _ => False) wr u16 := f4.trans f16 (fun _ _ h => h)
      have hob : ∀ k, some k = (Value.slice iA j ic).ownBlock → base ≤ k := fun k e => (own_low HIN.out.1 e.symm).1
      have kn16 : KeepN u16 u17 := KeepN.of_frm t17 (fun k e => by
        obtain ⟨cells, hc⟩ := Go.Proofs.YtglhedahannjiaaGreatDoorW.PrintWords.own_typed hr16 k e.symm
        exact ⟨cells, _, hc, by decide, by decide⟩)
      have fset : Frm (fun k => k = bx7) u17 (u17.setCell ⟨bx7, 0, none⟩ (.slice (some ⟨g17, 0, none⟩) (j + 1) c17)) := (Frm.refl _ _).setCell _ _ (fun _ => rfl)
      have kn17 : KeepN u17 (u17.setCell ⟨bx7, 0, none⟩ (.slice (some ⟨g17, 0, none⟩) (j + 1) c17)) := KeepN.of_frm fset (fun k e => by subst e; exact ⟨_, _, b717, by decide, by decide⟩)
      refine ⟨⟨j + 1, some ⟨g17, 0, none⟩, c17, by go_num, by omega, ?_, ?_, ?_⟩, by simp [intOf]; omega⟩
      · exact (HR.out.1.trans ((fwr.mono (fun _ _ h => h.elim)).trans t17 (fun _ _ h => h)) (fun k hk e => by have h1 := hob k e; have h2 := H3.out.2.2.2.2.2; omega)).trans fset (fun _ _ h => h)
      · exact blk_set b717
      · have hsn : l.take (j + 1) = l.take j ++ [p] := by rw [List.take_add_one, HR.out.2.2.2.2.2]; rfl
        rw [hsn]
        have htk : (l.take j).length = j := by rw [List.length_take]; omega
        refine Mine.snoc HIN.out.2 (((KeepN.of_frm fwr (fun _ h => h.elim)).trans kn16).trans kn17) (by rw [htk]; exact Go.Proofs.YtglhedahannjiaaGreatDoorW.PrintWords.own_setCell hr17 (own_ne_cells hr17 b717 (by decide)) _) ?_ ?_
        · exact ((ta13.keep (.inl rfl) (KeepN.of_frm t16 (fun _ h => h.elim))).keep (.inl rfl) kn16).keep (.inl rfl) kn17
        · exact ((tb13.keep (.inr rfl) (KeepN.of_frm t16 (fun _ h => h.elim))).keep (.inr rfl) kn16).keep (.inr rfl) kn17
    · obtain rfl : j = l.length := by omega
      as_aux_lemma =>
      rw [List.take_length] at hM
      obtain ⟨A', c', e', hic, hrd⟩ := hM.rd
      obtain ⟨rfl, rfl⟩ : iA = A' ∧ ic = c' := by simpa using e'
      clear e'
      have hfl : 0 < l.length → ∃ g, iA = some ⟨g, 0, none⟩ ∧ Files wr (fun k => base ≤ k ∧ k < wr.heap.size) g l.length := hM.files (fun p hp => ⟨Nat.le_trans (HSM.out.2 p hp) (by omega), Nat.le_trans (HA.out.2.1 p hp) (by omega)⟩) (fun k h1 h2 => ⟨h1, h2⟩)
      have hok : ImgOk l := fun p hp => ⟨HA.out.1.bytes p hp, HA.out.1.data p hp⟩
      have hll : l.length ≤ 1048576 := by have := HSM.out.1; omega
      obtain ⟨w5, hw5⟩ : ∃ w5, w5 = wr := ⟨_, rfl⟩
      subst hw5
      have hbw : base ≤ w5.heap.size := by have := hf.size; omega
      have HM := Lib.hid (And.intro fw (And.intro hb7 (And.intro b3r (And.intro hrd (And.intro hfl (And.intro hok hbw))))))
      have KLD : Hid (∀ W, Frm (fun _ => False) w5 W → Calls Tryz.prog 19 #[.agg #[.slice iA l.length ic]] W fun e w' => ∃ dv ev, e = .returned (.tuple #[dv, ev]) ∧ Frm (fun _ => False) W w' ∧ ((Dm.Good l ∧ ev = .nilIface ∧ ∃ b lab, dv = dptr b ∧ Live w.heap.size w' b lab eb l7 1048576 1048576 (Disk.load l) ∧ ∀ k, Ft lab k → W.heap.size ≤ k) ∨ (¬ Dm.Good l ∧ dv = .pointer none ∧ ev = .iface 228 (.pointer (some (eb 10)))))) := fun W hW => by
        have hfW := HM.out.1.trans hW (fun _ _ h => h)
        refine (load_live (B := w.heap.size) (H15.out.frm hfW (fun _ h => h.elim)).errs hfW.size l7_10 _ l (HM.out.2.2.2.1.frm hW) (n := 1048576) (m := 1048576) hll (fun p hp => Nat.le_trans (HSM.out.2 p hp) hbig) (.small (by omega) (by omega)) HA.out.1.bytes HA.out.1.names).mono ?_
        rintro e w' ⟨h1, ⟨hg, b, lab, rfl, h2, h3⟩ | ⟨hg, rfl⟩⟩
        · exact ⟨_, _, rfl, h1, .inl ⟨hg, rfl, b, lab, rfl, h2, h3⟩⟩
        · exact ⟨_, _, rfl, h1, .inr ⟨hg, rfl, errV_pos eb 10 (by decide)⟩⟩
      have KI : Hid (∀ W v1 v2 l, ImgRd W v1 l → ImgRd W v2 l → ImgOk l → Calls Tryz.prog 28 #[v1, v2] W fun e w' => e = .returned (.bool true) ∧ Frm (fun _ => False) W w') := fun W v1 v2 l h1 h2 ok => images_same W v1 v2 l h1 h2 ok
      have KN := Lib.hid (fun w => new_calls w)
      have x7 : w5.cell? ⟨bx7, 0, none⟩ = some (.slice iA l.length ic) := cell_of hb7 rfl
      clear hf hb7 hM fw b3r hrd hfl hok hbw s7 s3 hbase
      go_upto_region 12 with (first
        | (go_at_call 19; refine (KLD.out _ (Frm.refl _ _)).mono ?_; rintro e w6 ⟨dv, ev, rfl, f6, h6⟩; have H6 := Lib.hid (And.intro f6 h6); have b76 := (f6.block _ (Da.blk_lt HM.out.2.1) id).trans HM.out.2.1; have y7 : w6.cell? ⟨bx7, 0, none⟩ = some (.slice iA l.length ic) := cell_of b76 rfl; have y3 : w6.cell? ⟨w.heap.size, 0, none⟩ = some (.slice Ai l.length ci) := cell_of ((f6.block _ (Da.blk_lt HM.out.2.2.1) id).trans HM.out.2.2.1) rfl; clear f6 h6 b76 x7 x3))
      have KI1 : Hid (Calls Tryz.prog 28 #[.agg #[.slice iA l.length ic], .agg #[.slice Ai l.length ci]] w6 fun e w' => e = .returned (.bool true) ∧ Frm (fun _ => False) w6 w') := KI.out w6 _ _ l (HM.out.2.2.2.1.frm H6.out.1) (HA.out.1.img.frm (HM.out.1.trans H6.out.1 (fun _ _ h => h))) HM.out.2.2.2.2.2.1
      go_cut [90] from 79 to 90 (fun t wx => t = .bool false ∧ Frm (fun _ => False) w6 wx)
      case first =>
        rcases H6.out.2 with ⟨hg, rfl, b, lab, rfl, _⟩ | ⟨hg, rfl, rfl⟩
        · unfold dptr
          go_wp2_with (first | (go_at_call 28; refine KI1.out.mono ?_; rintro e w7 ⟨rfl, f7⟩; have F7 : Hid (Frm (fun _ => False) w6 w7) := Lib.hid f7; clear f7))
          go_meet
          case rel => exact ⟨rfl, F7.out⟩
        · go_wp2_with (first | (go_at_call 28; refine KI1.out.mono ?_; rintro e w7 ⟨rfl, f7⟩; have F7 : Hid (Frm (fun _ => False) w6 w7) := Lib.hid f7; clear f7))
          go_meet
          case rel => exact ⟨rfl, F7.out⟩
      case rest =>
      obtain ⟨rfl, f7⟩ := hcut
      obtain ⟨w7, hw7⟩ : ∃ w7, w7 = wc := ⟨_, rfl⟩
      subst hw7
      obtain ⟨gb, hgb⟩ : ∃ gb : Bool, gb = true ↔ ¬ Dm.Good l := by by_cases h : Dm.Good l; exact ⟨false, by simp [h]⟩; exact ⟨true, by simp [h]⟩
      have HGB := Lib.hid hgb
      have H7 := Lib.hid f7
      clear hgb f7 y7 y3 KI1
      go_upto_region 14 with (fail)
      go_cut [92] from 91 to 92 (fun t wx => t = .bool gb ∧ wx = w7)
      case first =>
        rcases H6.out.2 with ⟨hg, rfl, b, lab, rfl, _⟩ | ⟨hg, rfl, rfl⟩
        · go_wp2
          go_meet
          case rel => exact ⟨by
            have : gb = false := by cases gb with
              | false => rfl
              | true => exact absurd hg (HGB.out.1 rfl)
            rw [this], rfl⟩
        · go_wp2
          go_meet
          case rel => exact ⟨by rw [HGB.out.2 hg], rfl⟩
      case rest =>
      obtain ⟨rfl, rfl⟩ := hcut
      go_upto_if 92 with (fail)
      go_cut [10] from 10 to 93 (fun d wx => ∃ b lab D, d = dptr b ∧ Live w.heap.size wx b lab eb l7 1048576 1048576 D ∧ Quiet D ∧ (∀ k, Ft lab k → w5.heap.size ≤ k) ∧ Frm (fun _ => False) w5 wx)
      case first =>
        have f57 : Frm (fun _ => False) w5 wc := H6.out.1.trans H7.out (fun _ _ h => h)
        have he7 : ErrsAt w.heap.size wc eb l7 := (H15.out.frm (HM.out.1.trans f57 (fun _ _ h => h)) (fun _ h => h.elim)).errs
        have hs7 : w.heap.size ≤ wc.heap.size := (HM.out.1.trans f57 (fun _ _ h => h)).size
        cases gb with
        | true =>
          have HP := Lib.hid (And.intro f57 (And.intro he7 hs7))
          clear f57 he7 hs7
          go_wp2_with (first | (go_at_call 11; refine (KN.out _).mono ?_; rintro e w8 ⟨rfl, rfl⟩))
          go_meet
          case rel => exact ⟨_, _, _, rfl, Live.bornB HP.out.2.1 HP.out.2.2 (.small (by omega) (by omega)), quiet_new, fun k hk => by obtain ⟨p, hp⟩ := Option.isSome_iff_exists.1 hk; have h1 := ((Go.Proofs.YtglhedahannjiaaGreatDoor.Dw.born wc).base k p hp).1; have h2 := HP.out.1.size; omega, HP.out.1.trans (Frm.of_below (born_below _) (fun _ => False)) (fun _ _ h => h)⟩
        | false =>
          rcases H6.out.2 with ⟨hg, rfl, b, lab, rfl, hL, hlo⟩ | ⟨hg, rfl, rfl⟩
          · have HP := Lib.hid (And.intro f57 (And.intro (hL.frm H7.out) hlo))
            clear f57 he7 hs7 hL hlo
            go_wp2
            go_meet
            case rel => exact ⟨b, lab, _, rfl, HP.out.2.1, quiet_load l, HP.out.2.2, HP.out.1⟩
          · have := HGB.out.2 hg
            cases this
      case rest =>
      obtain ⟨b, lab, D, rfl, hL7, hQ7, hlo7, f57⟩ := hcut
      as_aux_lemma =>
      obtain ⟨w8, hw8⟩ : ∃ w8, w8 = wc := ⟨_, rfl⟩
      subst hw8
      obtain ⟨S5, hS5⟩ : ∃ S5 : Nat → Prop, ∀ k, S5 k ↔ (base ≤ k ∧ k < w5.heap.size) := ⟨_, fun _ => Iff.rfl⟩
      have KSP : Hid (∀ W, Frm (fun _ => False) w5 W → Calls Tryz.prog 46 #[.agg #[.slice iA l.length ic]] W fun e w' => e = .returned (.tuple #[]) ∧ Sp S5 W w') := fun W hW =>
        spoil_calls W S5 iA l.length ic (by omega) hic (fun h0 => by
          obtain ⟨g, e, hF⟩ := HM.out.2.2.2.2.1 h0
          have : S5 = fun k => base ≤ k ∧ k < w5.heap.size := funext fun k => propext (hS5 k)
          rw [this]
          exact ⟨g, e, hF.sp (Sp.of_frm hW)⟩) (fun k hk => by have := (hS5 k).1 hk; have := hW.size; omega)
      have KS8 := Lib.hid hL7.self.seenC
      have HOK1 := Lib.hid hL7.self.seenOk
      have hlen1 := seen_len hL7.inv hL7.sz.len
      obtain ⟨s1, hs1⟩ : ∃ s1, s1 = D.seenImg := ⟨_, rfl⟩
      rw [← hs1] at KS8 HOK1
      have HL7 := Lib.hid (And.intro hL7 (And.intro hQ7 (And.intro hlo7 (And.intro f57 hs1))))
      have HS5 := Lib.hid hS5
      have x7 : w8.cell? ⟨bx7, 0, none⟩ = some (.slice iA l.length ic) := cell_of ((f57.block _ (Da.blk_lt HM.out.2.1) id).trans HM.out.2.1) rfl
      clear hL7 hQ7 hlo7 f57 hs1 hS5 hlen1 KLD H6 H7 HGB KN
      unfold dptr at KS8 ⊢
      go_upto_region 17 with (first
        | (go_at_call 29; refine KS8.out.mono ?_; rintro e w9 ⟨p9, c9, rfl, hi9, f9⟩; have H9 := Lib.hid (And.intro hi9 f9); have x7' : w9.cell? ⟨bx7, 0, none⟩ = some (.slice iA l.length ic) := frm_cell f9 x7; clear hi9 f9 x7))
      obtain ⟨w10, hw10⟩ : ∃ w10, w10 = w9.alloc (.cells #[.slice p9 s1.length c9] 36) := ⟨_, rfl⟩
      rw [← hw10]
      have f910 : Frm (fun _ => False) w9 w10 := by rw [hw10]; exact (Frm.refl _ _).alloc _
      have b10 : w10.heap[w9.heap.size]? = some (.cells #[.slice p9 s1.length c9] 36 (0, 0)) := by rw [hw10]; exact blk_alloc
      have x7 : w10.cell? ⟨bx7, 0, none⟩ = some (.slice iA l.length ic) := frm_cell f910 x7'
      have f8a : Frm (fun _ => False) w8 w10 := H9.out.2.trans f910 (fun _ _ h => h)
      have H10 := Lib.hid (And.intro f910 (And.intro b10 (And.intro f8a (HL7.out.2.2.2.1.trans f8a (fun _ _ h => h)))))
      clear f910 b10 f8a hw10 x7' KS8
      go_upto_region 18 with (first
        | (go_at_call 46; refine (KSP.out _ H10.out.2.2.2).mono ?_; rintro e w11 ⟨rfl, s11⟩; have H11 := Lib.hid s11; clear s11))
      have hS5 := HS5.out
      have f11 := H11.out.frm
      have h5le : w5.heap.size ≤ w8.heap.size := HL7.out.2.2.2.1.size
      have h8le : w8.heap.size ≤ w9.heap.size := H9.out.2.size
      have hnl : ∀ k, S5 k → lab k = none ∧ w.heap.size ≤ k := fun k hk => by
        have h1 := (hS5 k).1 hk
        refine ⟨?_, by have := H3.out.2.2.2.1; have := H3.out.2.2.2.2.1; have := H3.out.2.2.2.2.2; omega⟩
        cases hx : lab k with
        | none => rfl
        | some y =>
          have := HL7.out.2.2.1 k (by unfold Ft; rw [hx]; rfl)
          omega
      have hL11 : Live w.heap.size w11 b lab eb l7 1048576 1048576 D := (HL7.out.1.frm H10.out.2.2.1).off_ f11 hnl
      have f911 : Frm S5 w9 w11 := (H10.out.1.mono (fun _ _ h => h.elim)).trans f11 (fun _ _ h => h)
      have i11 : ImgRd w11 (.agg #[.slice p9 s1.length c9]) s1 := (H9.out.1.keep2 f911 (fun k _ hk => by have := (hS5 k).1 hk; omega)).rd
      have b11 : w11.heap[w9.heap.size]? = some (.cells #[.slice p9 s1.length c9] 36 (0, 0)) := (f11.block _ (Da.blk_lt H10.out.2.1) (fun hk => by have := (hS5 _).1 hk; omega)).trans H10.out.2.1
      have fw11 : Frm (fun _ => False) w w11 := (HM.out.1.trans H10.out.2.2.2 (fun _ _ h => h)).trans f11 (fun k hk hs => by have := (hnl k hs).2; omega)
      have hlt11 : ∀ k, Ft lab k → w5.heap.size ≤ k ∧ k < w8.heap.size := fun k hk => ⟨HL7.out.2.2.1 k hk, HL7.out.1.lab_lt k hk⟩
      have KS2 : Hid (∀ W, Frm (fun _ => False) w11 W → Calls Tryz.prog 29 #[.pointer (some ⟨b, 0, none⟩)] W fun e w' => ∃ A c, e = .returned (.agg #[.slice A s1.length c]) ∧ ImgRd w' (.agg #[.slice A s1.length c]) s1 ∧ Frm (fun _ => False) w11 w') := fun W hW => by
        have := (hL11.self.on hW).seenC
        rw [← HL7.out.2.2.2.2] at this
        exact this.mono (by rintro e w' ⟨A, c, e1, e2, e3⟩; exact ⟨A, c, e1, e2.rd, hW.trans e3 (fun _ _ h => h)⟩)
      have zz : Hid (∀ W, Frm (fun _ => False) w11 W → W.cell? ⟨w9.heap.size, 0, none⟩ = some (.slice p9 s1.length c9)) := fun W hW => cell_of ((hW.block _ (Da.blk_lt b11) id).trans b11) rfl
      have S0 := zz.out w11 (Frm.refl _ _)
      have D0 := zz.out w11.drew (Frm.refl _ _).drew
      have HI1 := Lib.hid i11
      have h811 : w8.heap.size ≤ w11.heap.size := Nat.le_trans H10.out.2.2.1.size f11.size
      have HL11 := Lib.hid (And.intro hL11 (And.intro HL7.out.2.1 (And.intro fw11 (And.intro hlt11 (And.intro h811 h5le)))))
      clear hS5 f11 h5le h8le hnl hL11 f911 i11 b11 fw11 hlt11 x7 HL7 HS5 H9 H10 H11 KSP
      go_region_held3 (fun w' => w'.cell? ⟨w9.heap.size, 0, none⟩ = some (.slice p9 s1.length c9))
        (first | exact S0 | exact D0 | exact zz.out _ HX1.out.1 | exact zz.out _ HX2.out | go_keep)
        (first
          | (go_at_call 29; (with_reducible refine (KS2.out _ (by first | exact Frm.refl _ _ | exact (Frm.refl _ _).drew)).mono ?_); rintro e u3 ⟨A3, c3, rfl, hr3, f3⟩; have HX1 := Lib.hid (And.intro f3 hr3); clear hr3 f3)
          | (go_at_call 28; (with_reducible refine (KI.out _ _ _ s1 HX1.out.2 (HI1.out.frm HX1.out.1) HOK1.out).mono ?_); rintro e u4 ⟨rfl, f4⟩; have HX2 : Hid (Frm (fun _ => False) w11 u4) := Lib.hid (HX1.out.1.trans f4 (fun _ _ h => h)); clear f4))
      as_aux_lemma =>
      obtain ⟨w12, hw12⟩ : ∃ w12, w12 = u4 := ⟨_, rfl⟩
      subst hw12
      obtain ⟨NN, hNN⟩ : ∃ NN, NN = dx.length + 20 := ⟨_, rfl⟩
      have e20 : (dx.length : Int) + 20 = (NN : Int) := by omega
      have hN20 : NN ≤ 1048596 := by omega
      have HNN := Lib.hid hNN
      obtain ⟨i8, hi8, hz8, hz81, hz82⟩ := info_parts byteInfo
      have hmx : maxLen = 9223372036854775807 := by decide
      clear hNN S0 D0 zz KS2 HI1
      go_wp2_with (first
        | (at_make; refine wpList_make_full _ rfl _ _ _ rfl w12.heap.size 5 i8 _ 1 Tryz.underlying22 hi8 hz8 hz81 .i64 .i64 _ _ NN rfl rfl rfl rfl (by rw [hz82]; omega) (by omega) (Nat.le_refl _) ?_; intro w13 hown13 hg13))
      obtain ⟨cs13, hc13, hs13⟩ : ∃ cs : Array Value, w13.heap[w12.heap.size]? = some (.cells cs 5 (0, 0)) ∧ cs.size = NN := by
        obtain ⟨_, ⟨h, _⟩ | ⟨g, cap, cur, e, _, h2, _, _, h5, _⟩⟩ := hown13
        · cases h
        · obtain ⟨rfl, rfl⟩ : w12.heap.size = g ∧ NN = cap := by simpa using e
          exact ⟨cur, h2, by omega⟩
      have f1113 : Frm (fun _ => False) w11 w13 := HX2.out.trans ((Frm.of_grown hg13).mono (fun k _ e => by cases e)) (fun _ _ h => h)
      obtain ⟨gf, hgf⟩ : ∃ gf, gf = w12.heap.size := ⟨_, rfl⟩
      rw [← hgf] at hc13 ⊢
      have hgf8 : w8.heap.size ≤ gf := by rw [hgf]; exact Nat.le_trans HL11.out.2.2.2.2.1 HX2.out.size
      have hgf13 : gf < w13.heap.size := Da.blk_lt hc13
      obtain ⟨X, hX⟩ : ∃ X : Nat → Int, ∀ k, X k = dx.getD k 90 := ⟨_, fun _ => rfl⟩
      have H13 := Lib.hid (And.intro f1113 (And.intro hc13 (And.intro hs13 (And.intro hgf8 (And.intro hgf13 hX)))))
      clear hown13 hg13 hi8 hz8 hz81 hz82 f1113 hc13 hs13 hgf hgf8 hgf13 hX
      go_wp2
      go_loopw [14] (fun v wr => ∃ i, ∃ cs : Array Value, v = .int .i64 (i : Nat) ∧ i ≤ NN ∧ Frm (fun k => k = gf) w13 wr ∧ wr.heap[gf]? = some (.cells cs 5 (0, 0)) ∧ cs.size = NN ∧ ∀ k, k < i → cs[k]? = some (.int .u8 (X k))) (fun v _ => NN - (intOf v).toNat)
      case atStart => exact ⟨0, cs13, rfl, Nat.zero_le _, Frm.refl _ _, H13.out.2.1, H13.out.2.2.1, fun k hk => absurd hk (Nat.not_lt_zero _)⟩
      case round =>
      obtain ⟨i, cs2, rfl, hi, hf2, hb2, hs2, hc2⟩ := hrel
      have hgw : w.heap.size ≤ gf := by have h1 := H13.out.2.2.2.1; have h2 := HM.out.1.size; have h3 := HL11.out.2.2.2.2.2; omega
      have hfw : Frm (fun _ => False) w wr := (HL11.out.2.2.1.trans H13.out.1 (fun _ _ h => h)).trans hf2 (fun k hk e => by omega)
      by_cases hlt : i < NN
      · obtain ⟨vc, hvc⟩ : ∃ vc, cs2[i]? = some vc := ⟨_, Array.getElem?_eq_getElem (by omega)⟩
        have m1 : wr.cell? ⟨gf, i, none⟩ = some vc := cell_of hb2 hvc
        have m2 : wr.frozen? ⟨gf, i, none⟩ = false := frozen_of hb2
        have hset : ∀ (cs : Array Value) (v : Int), cs.size = NN → (∀ k, k < i → cs[k]? = some (.int .u8 (X k))) → v = X i → ∀ k, k < i + 1 → (cs.setIfInBounds i (.int .u8 v))[k]? = some (.int .u8 (X k)) := by
          intro cs v hs hc hv k hk
          rw [Array.getElem?_setIfInBounds]
          by_cases hki : i = k
          · subst hki; rw [if_pos rfl, if_pos (by omega), hv]
          · rw [if_neg hki]; exact hc k (by omega)
        by_cases hid : i < dx.length
        · obtain ⟨ad, rfl, hcd⟩ := HDX.out.1.2.2 (by omega)
          have hcd := hcd i hid
          obtain ⟨xi, hxi⟩ : ∃ xi, dx.getD i 0 = xi := ⟨_, rfl⟩
          rw [hxi] at hcd
          have y1 : wr.cell? (ad.add i) = some (.int .u8 xi) := frm_cell hfw hcd
          have hXi : xi = X i := by rw [← hxi, H13.out.2.2.2.2.2 i]; simp [List.getD_eq_getElem?_getD, hid]
          have hab : (ad.add i).block ≠ gf := by have := World.block_lt_of_cell? w _ hcd; omega
          have hic : i < cd := by omega
          have HR := Lib.hid (And.intro hf2 (And.intro hb2 (And.intro hs2 (And.intro hc2 (And.intro hset hXi)))))
          have y2 : (wr.setCell ⟨gf, i, none⟩ (.int .u8 90)).cell? (ad.add i) = some (.int .u8 xi) := (World.cell?_setCell_far _ _ _ _ (Ne.symm hab)).trans y1
          have y3 : (wr.setCell ⟨gf, i, none⟩ (.int .u8 90)).cell? ⟨gf, i, none⟩ = some (.int .u8 90) := cell_of (blk_set hb2) (by rw [Array.getElem?_setIfInBounds, if_pos rfl, if_pos (by omega)])
          have y4 : (wr.setCell ⟨gf, i, none⟩ (.int .u8 90)).frozen? ⟨gf, i, none⟩ = false := frozen_of (blk_set hb2)
          have HY := Lib.hid (And.intro y2 (And.intro y3 y4))
          clear hxi hvc hf2 hb2 hs2 hc2 hset hXi hcd y1 hab hfw y2 y3 y4
          go_upto_region 26 with (fail)
          obtain ⟨u1, hu1⟩ : ∃ u1, u1 = wr.setCell ⟨gf, i, none⟩ (.int .u8 90) := ⟨_, rfl⟩
          rw [← hu1]
          have y2 := HY.out.1
          have y3 := HY.out.2.1
          have y4 := HY.out.2.2
          rw [← hu1] at y2 y3 y4
          have HU1 := Lib.hid hu1
          clear m1 m2 hu1
          go_wp2
          refine ⟨⟨i + 1, (cs2.setIfInBounds i (.int .u8 90)).setIfInBounds i (.int .u8 xi), by go_num, by omega, ?_, ?_, by simp [HR.out.2.2.1], ?_⟩, by simp [intOf]; omega⟩
          · rw [HU1.out]; exact (HR.out.1.setCell _ _ (fun _ => rfl)).setCell _ _ (fun _ => rfl)
          · rw [HU1.out]; exact blk_set (blk_set HR.out.2.1)
          · exact HR.out.2.2.2.2.1 _ _ (by simp [HR.out.2.2.1]) (fun k hk => by rw [Array.getElem?_setIfInBounds, if_neg (by omega)]; exact HR.out.2.2.2.1 k hk) HR.out.2.2.2.2.2
        · have hXi : (90 : Int) = X i := by rw [H13.out.2.2.2.2.2 i]; simp [List.getD_eq_getElem?_getD, List.getElem?_eq_none (Nat.le_of_not_lt hid)]
          have HR := Lib.hid (And.intro hf2 (And.intro hb2 (And.intro hs2 (And.intro hc2 (And.intro hset hXi)))))
          clear hvc hf2 hb2 hs2 hc2 hset hXi hfw
          go_wp2
          exact ⟨⟨i + 1, cs2.setIfInBounds i (.int .u8 90), by go_num, by omega, HR.out.1.setCell _ _ (fun _ => rfl), blk_set HR.out.2.1, by simp [HR.out.2.2.1], HR.out.2.2.2.2.1 _ _ HR.out.2.2.1 HR.out.2.2.2.1 HR.out.2.2.2.2.2⟩, by simp [intOf]; omega⟩
      · obtain rfl : i = NN := by omega
        as_aux_lemma =>
        obtain ⟨w14, hw14⟩ : ∃ w14, w14 = wr := ⟨_, rfl⟩
        subst hw14
        have hgn : lab gf = none := by
          cases hx : lab gf with
          | none => rfl
          | some y =>
            have h1 := HL11.out.2.2.2.1 gf (by unfold Ft; rw [hx]; rfl)
            have h2 := H13.out.2.2.2.1
            omega
        have hL14 : Live w.heap.size w14 b lab eb l7 1048576 1048576 D := (HL11.out.1.frm H13.out.1).off_ hf2 (fun k hk => by subst hk; exact ⟨hgn, hgw⟩)
        have hk1 := create_there (n := ⟨#[107, 101, 112, 116]⟩) HL11.out.2.1 (by decide)
        have KCR := Lib.hid (hL14.createW (.small (by omega) (by omega)) ⟨#[107, 101, 112, 116]⟩ (by decide))
        obtain ⟨D1, hD1⟩ : ∃ D1, D1 = (D.create ⟨#[107, 101, 112, 116]⟩).2 := ⟨_, rfl⟩
        rw [← hD1] at KCR hk1
        obtain ⟨ev, hev⟩ : ∃ ev, ev = errV eb (D.create ⟨#[107, 101, 112, 116]⟩).1 := ⟨_, rfl⟩
        rw [← hev] at KCR
        have H14 := Lib.hid (And.intro hL14 (And.intro hk1 (And.intro hgn (And.intro hgw (And.intro hfw (And.intro hb2 (And.intro hs2 hc2)))))))
        clear hL14 hk1 hgn hgw hfw hb2 hs2 hc2 hf2 hD1 hev
        unfold dptr at KCR
        go_upto_region 28 with (first
          | (go_at_call 12; refine KCR.out.mono ?_; rintro e w15 ⟨rfl, hx15⟩; have HX15 := Lib.hid hx15; clear hx15))
        obtain ⟨lab1, hL15, hf15, hl15⟩ := HX15.out
        have hq1 := H14.out.2.1.1
        obtain ⟨fi, hfi⟩ := H14.out.2.1.2
        obtain ⟨a1, a2, a3, a4, a5⟩ := append_there hL15.inv hq1 hfi dx
        have KRD := hL15.self.readC ⟨#[107, 101, 112, 116]⟩
        obtain ⟨old, hold⟩ : ∃ old, old = (D1.read ⟨#[107, 101, 112, 116]⟩).2.1 := ⟨_, rfl⟩
        obtain ⟨oldb, holdb⟩ : ∃ oldb, oldb = (D1.read ⟨#[107, 101, 112, 116]⟩).2.2 := ⟨_, rfl⟩
        rw [a3, errV_zero, ← hold, ← holdb] at KRD
        rw [← hold] at a5
        have hg1 : lab1 gf = none := by
          cases hx : lab1 gf with
          | none => rfl
          | some y =>
            have h1 := hl15 gf (Da.blk_lt H14.out.2.2.2.2.2.1) (by unfold Ft; rw [hx]; rfl)
            unfold Ft at h1
            rw [H14.out.2.2.1] at h1
            cases h1
        have hb15 : w15.heap[gf]? = some (.cells cs2 5 (0, 0)) := (hf15.block _ (Da.blk_lt H14.out.2.2.2.2.2.1) (fun h => by unfold Ft at h; rw [H14.out.2.2.1] at h; cases h)).trans H14.out.2.2.2.2.2.1
        have hlab15 : ∀ k, Ft lab1 k → k < w14.heap.size → w5.heap.size ≤ k ∧ k < w8.heap.size := fun k hk hlt => HL11.out.2.2.2.1 k (hl15 k hlt hk)
        have hfw15 : Frm (fun _ => False) w w15 := H14.out.2.2.2.2.1.trans hf15 (fun k hk hl => by have h1 := HL11.out.2.2.2.1 k hl; have h2 := HM.out.1.size; omega)
        obtain ⟨D2, hD2⟩ : ∃ D2, D2 = (D1.append ⟨#[107, 101, 112, 116]⟩ dx).2 := ⟨_, rfl⟩
        rw [← hD2] at a2 a4 a5
        have KRD1 : Hid (Calls Tryz.prog 45 #[.pointer (some ⟨b, 0, none⟩), .string ⟨#[107, 101, 112, 116]⟩] w15 fun e w' => ∃ p c p2 n2 c2, e = .returned (.tuple #[.slice p old.length c, .slice p2 n2 c2, .nilIface]) ∧ w'.ownsRow w15.heap.size 5 1 (.slice p old.length c) old.length (u8s old) ∧ Frm (fun _ => False) w15 w') := Lib.hid (KRD.mono (by
          rintro e w' ⟨dv, bv, rfl, h1, h2, h3⟩
          obtain ⟨p1, c1, rfl⟩ := own_form h1
          obtain ⟨p2, c2, rfl⟩ := own_form h2
          exact ⟨p1, c1, p2, _, c2, rfl, h1, h3⟩))
        have hap : ∀ W, Frm (fun _ => False) w15 W → Calls Tryz.prog 13 #[.pointer (some ⟨b, 0, none⟩), .string ⟨#[107, 101, 112, 116]⟩, .slice (some ⟨gf, 0, none⟩) dx.length i] W fun e w' => e = .returned .nilIface ∧ Next w.heap.size W lab1 w' b eb l7 1048578 (1048576 + dx.length) D2 := fun W hW => by
          have hb16 := (hW.block _ (Da.blk_lt hb15) id).trans hb15
          have hgv : Given W lab1 (.slice (some ⟨gf, 0, none⟩) dx.length i) dx := by
            refine ⟨.inr (.inl ⟨gf, 0, i, rfl, fun j u hu => ?_⟩), fun _ g o n c e => ?_⟩
            · have hj : j < dx.length := by have := (List.getElem?_eq_some_iff.1 hu).1; simpa [u8s] using this
              rw [Nat.zero_add]
              refine (cell_of hb16 (H14.out.2.2.2.2.2.2.2 j (by have := HNN.out; omega))).trans ?_
              rw [H13.out.2.2.2.2.2 j, ← hu]
              simp [u8s, hj, List.getD_eq_getElem?_getD]
            · simp only [Value.slice.injEq, Option.some.injEq, Addr.mk.injEq] at e
              obtain ⟨⟨rfl, _⟩, _⟩ := e
              exact ⟨Da.blk_lt hb16, hg1⟩
          have := (hL15.frm hW).appendW ⟨#[107, 101, 112, 116]⟩ (some ⟨gf, 0, none⟩) i dx (.small (by omega) (by omega)) hgv (by have := HNN.out; omega) HDX.out.2
          rw [a1, errV_zero, ← hD2] at this
          exact this
        have KAP := Lib.hid hap
        have holdl : old.length ≤ 1048576 := by rw [hold]; exact read_len hL15.sz _
        have HD15 := Lib.hid (And.intro hL15 (And.intro hf15 (And.intro hl15 (And.intro a2 (And.intro (And.intro a4 a5) (And.intro holdl (And.intro hg1 (And.intro hb15 (And.intro hlab15 hfw15)))))))))
        have hdi : dx.length ≤ i := by have := HNN.out; omega
        clear hL15 hf15 hl15 hq1 hfi a1 a2 a3 a4 a5 KRD hold holdb hg1 hb15 hlab15 hfw15 hD2 hap
        go_upto_region 31 with (first
          | (go_at_call 45; refine KRD1.out.mono ?_; rintro e w16 ⟨pO, cO, pb, nb, cb, rfl, hr16, f16⟩; have H16 := Lib.hid (And.intro hr16 f16); clear hr16 f16)
          | (go_at_call 13; refine (KAP.out _ H16.out.2).mono ?_; rintro e w17 ⟨rfl, hx17⟩; have HX17 := Lib.hid hx17; clear hx17))
        as_aux_lemma =>
        obtain ⟨lab2, hL17, hf17, hl17⟩ := HX17.out
        have hg2 : lab2 gf = none := by
          cases hx : lab2 gf with
          | none => rfl
          | some y =>
            have h1 := hl17 gf (Da.blk_lt ((H16.out.2.block _ (Da.blk_lt HD15.out.2.2.2.2.2.2.2.1) id).trans HD15.out.2.2.2.2.2.2.2.1)) (by unfold Ft; rw [hx]; rfl)
            unfold Ft at h1
            rw [HD15.out.2.2.2.2.2.2.1] at h1
            cases h1
        have hb17 : w17.heap[gf]? = some (.cells cs2 5 (0, 0)) := by
          have h16 := (H16.out.2.block _ (Da.blk_lt HD15.out.2.2.2.2.2.2.2.1) id).trans HD15.out.2.2.2.2.2.2.2.1
          exact (hf17.block _ (Da.blk_lt h16) (fun h => by unfold Ft at h; rw [HD15.out.2.2.2.2.2.2.1] at h; cases h)).trans h16
        have hl1 : ∀ k, Ft lab1 k → w.heap.size ≤ k ∧ k < w15.heap.size := fun k hk => ⟨HD15.out.1.base k hk, HD15.out.1.lab_lt k hk⟩
        have hl2 : ∀ k, Ft lab2 k → w.heap.size ≤ k ∧ k < w17.heap.size := fun k hk => ⟨hL17.base k hk, hL17.lab_lt k hk⟩
        have hfw17 : Frm (fun _ => False) w w17 := (HD15.out.2.2.2.2.2.2.2.2.2.trans H16.out.2 (fun _ _ h => h)).trans hf17 (fun k hk hl => by have := (hl1 k hl).1; omega)
        have hgf15 : gf < w15.heap.size := Da.blk_lt HD15.out.2.2.2.2.2.2.2.1
        have H17 := Lib.hid (And.intro hL17 (And.intro hf17 (And.intro hg2 (And.intro hb17 (And.intro hl1 (And.intro hl2 (And.intro hfw17 (And.intro hgf15 H14.out.2.2.2.1))))))))
        have hs17 := H14.out.2.2.2.2.2.2.1
        clear hL17 hf17 hl17 hg2 hb17 hl1 hl2 hfw17 hgf15 KRD1 KAP KCR HX15
        go_wp2
        go_loopw [18] (fun v wr => ∃ j, ∃ cs : Array Value, v = .int .i64 (j : Nat) ∧ j ≤ i ∧ Frm (fun k => k = gf) w17 wr ∧ wr.heap[gf]? = some (.cells cs 5 (0, 0)) ∧ cs.size = i ∧ ∀ k, j ≤ k → k < i → cs[k]? = some (.int .u8 (X k))) (fun v _ => i - (intOf v).toNat)
        case atStart => exact ⟨0, cs2, rfl, Nat.zero_le _, Frm.refl _ _, H17.out.2.2.2.1, hs17, fun k _ hk => H14.out.2.2.2.2.2.2.2 k hk⟩
        case round =>
        obtain ⟨j, cs3, rfl, hj, hf3, hb3, hs3, hc3⟩ := hrel
        by_cases hlt3 : j < i
        · have m0 := hc3 j (Nat.le_refl _) hlt3
          have m1 : wr.cell? ⟨gf, j, none⟩ = some (.int .u8 (X j)) := cell_of hb3 m0
          have m2 : wr.frozen? ⟨gf, j, none⟩ = false := frozen_of hb3
          have hstep : ∀ v : Value, ∀ k, j + 1 ≤ k → k < i → (cs3.setIfInBounds j v)[k]? = some (.int .u8 (X k)) := fun v k h1 h2 => by
            rw [Array.getElem?_setIfInBounds, if_neg (by omega)]; exact hc3 k (by omega) h2
          have hfw3 : Frm (fun _ => False) w wr := H17.out.2.2.2.2.2.2.1.trans hf3 (fun k hk e => by have := H17.out.2.2.2.2.2.2.2.2; omega)
          by_cases hjd : j < dx.length
          · obtain ⟨ad, rfl, hcd⟩ := HDX.out.1.2.2 (by omega)
            have hcd := hcd j hjd
            have hXj : dx.getD j 0 = X j := by rw [H13.out.2.2.2.2.2 j]; simp [List.getD_eq_getElem?_getD, hjd]
            rw [hXj] at hcd
            have y1 : wr.cell? (ad.add j) = some (.int .u8 (X j)) := frm_cell hfw3 hcd
            obtain ⟨xj, hxj⟩ : ∃ xj, X j = xj := ⟨_, rfl⟩
            rw [hxj] at m1 y1
            have hjc : j < cd := by omega
            have HR := Lib.hid (And.intro hf3 (And.intro hb3 (And.intro hs3 hstep)))
            clear m0 hf3 hb3 hs3 hc3 hstep hfw3 hcd hXj hxj
            have hdA : decide ((j : Int) < (dx.length : Int)) = true := decide_eq_true (by omega)
            have hdB : decide ((dx.length : Int) ≤ (j : Int)) = false := decide_eq_false (by omega)
            have hdC : decide (dx.length ≤ j) = false := decide_eq_false (by omega)
            have hdD : decide (j < dx.length) = true := decide_eq_true (by omega)
            go_upto_region 34 with (fail)
            refine start_ (n := 28) (S := fun w' => w'.cell? ⟨gf, j, none⟩ = some (.int .u8 xj) ∧ w'.cell? (ad.add j) = some (.int .u8 xj)) (ds := []) #[false, false, false, false, false, false, false, false, false, false, false, false, false, false, false, false, false, false, false, false, false, false, false, false, false, false, false, false] (by kernel_rfl) rfl rfl ⟨m1, y1⟩ (fun hHeld => ?_)
            refine pure_ (i := 0) (N := some 148) (v := ?_) (a' := ?_) #[true, false, false, false, false, false, false, false, false, false, false, false, false, false, false, false, false, false, false, false, false, false, false, false, false, false, false, false] rfl rfl (by kernel_rfl) (fun _ _ _ h => h) (Or.inl ⟨by rfl, ?_⟩) ?_ ?_
            rotate_left
            · intro w'
              go_simp
              with_reducible rfl
            rotate_left
            · simp only [Act.put, List.setIfInBounds_toArray, List.set_cons_zero, List.set_cons_succ, i64_w, i32_w]
              rfl
            refine pure_ (i := 1) (N := some 149) (v := ?_) (a' := ?_) #[true, true, false, false, false, false, false, false, false, false, false, false, false, false, false, false, false, false, false, false, false, false, false, false, false, false, false, false] rfl rfl (by kernel_rfl) (fun _ _ _ h => h) (Or.inl ⟨by rfl, ?_⟩) ?_ ?_
            rotate_left
            · intro w'
              go_simp
              with_reducible rfl
            rotate_left
            · simp only [Act.put, List.setIfInBounds_toArray, List.set_cons_zero, List.set_cons_succ, i64_w, i32_w]
              rfl
            refine pure_ (i := 2) (N := some 150) (v := ?_) (a' := ?_) #[true, true, true, false, false, false, false, false, false, false, false, false, false, false, false, false, false, false, false, false, false, false, false, false, false, false, false, false] rfl rfl (by kernel_rfl) (fun _ _ _ h => h) (Or.inl ⟨by rfl, ?_⟩) ?_ ?_
            rotate_left
            · intro w'
              go_simp
              with_reducible rfl
            rotate_left
            · simp only [Act.put, List.setIfInBounds_toArray, List.set_cons_zero, List.set_cons_succ, i64_w, i32_w]
              rfl
            refine pure_ (i := 3) (N := some 151) (v := ?_) (a' := ?_) #[true, true, true, true, false, false, false, false, false, false, false, false, false, false, false, false, false, false, false, false, false, false, false, false, false, false, false, false] rfl rfl (by kernel_rfl) (fun _ _ _ h => h) (Or.inl ⟨by rfl, ?_⟩) ?_ ?_
            rotate_left
            · intro w'
              go_simp
              with_reducible rfl
            rotate_left
            · simp only [Act.put, List.setIfInBounds_toArray, List.set_cons_zero, List.set_cons_succ, i64_w, i32_w]
              rfl
            refine pure_ (i := 4) (N := some 152) (v := ?_) (a' := ?_) #[true, true, true, true, true, false, false, false, false, false, false, false, false, false, false, false, false, false, false, false, false, false, false, false, false, false, false, false] rfl rfl (by kernel_rfl) (fun _ _ _ h => h) (Or.inl ⟨by rfl, ?_⟩) ?_ ?_
            rotate_left
            · intro w'
              go_simp
              with_reducible rfl
            rotate_left
            · simp only [Act.put, List.setIfInBounds_toArray, List.set_cons_zero, List.set_cons_succ, i64_w, i32_w]
              rfl
            refine pure_ (i := 5) (N := some 153) (v := ?_) (a' := ?_) #[true, true, true, true, true, true, false, false, false, false, false, false, false, false, false, false, false, false, false, false, false, false, false, false, false, false, false, false] rfl rfl (by kernel_rfl) (fun _ _ _ h => h) (Or.inl ⟨by rfl, ?_⟩) ?_ ?_
            rotate_left
            · intro w'
              go_simp
              with_reducible rfl
            rotate_left
            · simp only [Act.put, List.setIfInBounds_toArray, List.set_cons_zero, List.set_cons_succ, i64_w, i32_w]
              rfl
            refine pure_ (i := 6) (N := some 154) (v := ?_) (a' := ?_) #[true, true, true, true, true, true, true, false, false, false, false, false, false, false, false, false, false, false, false, false, false, false, false, false, false, false, false, false] rfl rfl (by kernel_rfl) (fun _ _ _ h => h) (Or.inl ⟨by rfl, ?_⟩) ?_ ?_
            rotate_left
            · intro w'
              go_simp
              with_reducible rfl
            rotate_left
            · simp only [Act.put, List.setIfInBounds_toArray, List.set_cons_zero, List.set_cons_succ, i64_w, i32_w]
              rfl
            refine pure_ (i := 7) (N := some 155) (v := ?_) (a' := ?_) #[true, true, true, true, true, true, true, true, false, false, false, false, false, false, false, false, false, false, false, false, false, false, false, false, false, false, false, false] rfl rfl (by kernel_rfl) (fun _ _ _ h => h) (Or.inl ⟨by rfl, ?_⟩) ?_ ?_
            rotate_left
            · intro w'
              go_simp
              with_reducible rfl
            rotate_left
            · simp only [Act.put, List.setIfInBounds_toArray, List.set_cons_zero, List.set_cons_succ, i64_w, i32_w]
              rfl
            refine pure_ (i := 9) (N := some 157) (v := ?_) (a' := ?_) #[true, true, true, true, true, true, true, true, false, true, false, false, false, false, false, false, false, false, false, false, false, false, false, false, false, false, false, false] rfl rfl (by kernel_rfl) (fun _ _ _ h => h) (Or.inl ⟨by rfl, ?_⟩) ?_ ?_
            rotate_left
            · intro w'
              go_simp
              with_reducible rfl
            rotate_left
            · simp only [Act.put, List.setIfInBounds_toArray, List.set_cons_zero, List.set_cons_succ, i64_w, i32_w]
              rfl
            refine pure_ (i := 10) (N := some 158) (v := ?_) (a' := ?_) #[true, true, true, true, true, true, true, true, false, true, true, false, false, false, false, false, false, false, false, false, false, false, false, false, false, false, false, false] rfl rfl (by kernel_rfl) (fun _ _ _ h => h) (Or.inl ⟨by rfl, ?_⟩) ?_ ?_
            rotate_left
            · intro w'
              go_simp
              with_reducible rfl
            rotate_left
            · simp only [Act.put, List.setIfInBounds_toArray, List.set_cons_zero, List.set_cons_succ, i64_w, i32_w]
              rfl
            refine pure_ (i := 11) (N := some 159) (v := ?_) (a' := ?_) #[true, true, true, true, true, true, true, true, false, true, true, true, false, false, false, false, false, false, false, false, false, false, false, false, false, false, false, false] rfl rfl (by kernel_rfl) (fun _ _ _ h => h) (Or.inl ⟨by rfl, ?_⟩) ?_ ?_
            rotate_left
            · intro w'
              go_simp
              with_reducible rfl
            rotate_left
            · simp only [Act.put, List.setIfInBounds_toArray, List.set_cons_zero, List.set_cons_succ, i64_w, i32_w]
              rfl
            refine take_ (i := 8) (N := some 156) (v := ?_) (a' := ?_) #[true, true, true, true, true, true, true, true, true, true, true, true, false, false, false, false, false, false, false, false, false, false, false, false, false, false, false, false] rfl rfl (by kernel_rfl) (fun _ _ _ h => h) (Or.inl ⟨by rfl, ?_⟩) hHeld ?_ ?_
            rotate_left
            · rintro w' ⟨s0, s1⟩
              go_simp
              with_reducible rfl
            rotate_left
            · simp only [Act.put, List.setIfInBounds_toArray, List.set_cons_zero, List.set_cons_succ, i64_w, i32_w]
              rfl
            refine take_ (i := 12) (N := some 160) (v := ?_) (a' := ?_) #[true, true, true, true, true, true, true, true, true, true, true, true, true, false, false, false, false, false, false, false, false, false, false, false, false, false, false, false] rfl rfl (by kernel_rfl) (fun _ _ _ h => h) (Or.inl ⟨by rfl, ?_⟩) hHeld ?_ ?_
            rotate_left
            · rintro w' ⟨s0, s1⟩
              go_simp
              with_reducible rfl
            rotate_left
            · simp only [Act.put, List.setIfInBounds_toArray, List.set_cons_zero, List.set_cons_succ, i64_w, i32_w]
              rfl
            refine pure_ (i := 13) (N := some 161) (v := ?_) (a' := ?_) #[true, true, true, true, true, true, true, true, true, true, true, true, true, true, false, false, false, false, false, false, false, false, false, false, false, false, false, false] rfl rfl (by kernel_rfl) (fun _ _ _ h => h) (Or.inl ⟨by rfl, ?_⟩) ?_ ?_
            rotate_left
            · intro w'
              go_simp
              with_reducible rfl
            rotate_left
            · simp only [Act.put, List.setIfInBounds_toArray, List.set_cons_zero, List.set_cons_succ, i64_w, i32_w]
              rfl
            refine pure_ (i := 14) (N := some 162) (v := ?_) (a' := ?_) #[true, true, true, true, true, true, true, true, true, true, true, true, true, true, true, false, false, false, false, false, false, false, false, false, false, false, false, false] rfl rfl (by kernel_rfl) (fun _ _ _ h => h) (Or.inl ⟨by rfl, ?_⟩) ?_ ?_
            rotate_left
            · intro w'
              go_simp
              with_reducible rfl
            rotate_left
            · simp only [Act.put, List.setIfInBounds_toArray, List.set_cons_zero, List.set_cons_succ, i64_w, i32_w]
              rfl
            refine pure_ (i := 15) (N := some 163) (v := ?_) (a' := ?_) #[true, true, true, true, true, true, true, true, true, true, true, true, true, true, true, true, false, false, false, false, false, false, false, false, false, false, false, false] rfl rfl (by kernel_rfl) (fun _ _ _ h => h) (Or.inl ⟨by rfl, ?_⟩) ?_ ?_
            rotate_left
            · intro w'
              go_simp
              with_reducible rfl
            rotate_left
            · simp only [Act.put, List.setIfInBounds_toArray, List.set_cons_zero, List.set_cons_succ, i64_w, i32_w]
              rfl
            refine pure_ (i := 16) (N := some 164) (v := ?_) (a' := ?_) #[true, true, true, true, true, true, true, true, true, true, true, true, true, true, true, true, true, false, false, false, false, false, false, false, false, false, false, false] rfl rfl (by kernel_rfl) (fun _ _ _ h => h) (Or.inl ⟨by rfl, ?_⟩) ?_ ?_
            rotate_left
            · intro w'
              go_simp
              with_reducible rfl
            rotate_left
            · simp only [Act.put, List.setIfInBounds_toArray, List.set_cons_zero, List.set_cons_succ, i64_w, i32_w]
              rfl
            refine pure_ (i := 17) (N := some 165) (v := ?_) (a' := ?_) #[true, true, true, true, true, true, true, true, true, true, true, true, true, true, true, true, true, true, false, false, false, false, false, false, false, false, false, false] rfl rfl (by kernel_rfl) (fun _ _ _ h => h) (Or.inl ⟨by rfl, ?_⟩) ?_ ?_
            rotate_left
            · intro w'
              go_simp
              with_reducible rfl
            rotate_left
            · simp only [Act.put, List.setIfInBounds_toArray, List.set_cons_zero, List.set_cons_succ, i64_w, i32_w]
              rfl
            refine pure_ (i := 18) (N := some 166) (v := ?_) (a' := ?_) #[true, true, true, true, true, true, true, true, true, true, true, true, true, true, true, true, true, true, true, false, false, false, false, false, false, false, false, false] rfl rfl (by kernel_rfl) (fun _ _ _ h => h) (Or.inl ⟨by rfl, ?_⟩) ?_ ?_
            rotate_left
            · intro w'
              go_simp
              with_reducible rfl
            rotate_left
            · simp only [Act.put, List.setIfInBounds_toArray, List.set_cons_zero, List.set_cons_succ, i64_w, i32_w]
              rfl
            refine pure_ (i := 19) (N := some 167) (v := ?_) (a' := ?_) #[true, true, true, true, true, true, true, true, true, true, true, true, true, true, true, true, true, true, true, true, false, false, false, false, false, false, false, false] rfl rfl (by kernel_rfl) (fun _ _ _ h => h) (Or.inl ⟨by rfl, ?_⟩) ?_ ?_
            rotate_left
            · intro w'
              go_simp
              with_reducible rfl
            rotate_left
            · simp only [Act.put, List.setIfInBounds_toArray, List.set_cons_zero, List.set_cons_succ, i64_w, i32_w]
              rfl
            refine pure_ (i := 20) (N := some 168) (v := ?_) (a' := ?_) #[true, true, true, true, true, true, true, true, true, true, true, true, true, true, true, true, true, true, true, true, true, false, false, false, false, false, false, false] rfl rfl (by kernel_rfl) (fun _ _ _ h => h) (Or.inl ⟨by rfl, ?_⟩) ?_ ?_
            rotate_left
            · intro w'
              go_simp
              with_reducible rfl
            rotate_left
            · simp only [Act.put, List.setIfInBounds_toArray, List.set_cons_zero, List.set_cons_succ, i64_w, i32_w]
              rfl
            refine pure_ (i := 21) (N := some 169) (v := undef) (a' := ?_) #[true, true, true, true, true, true, true, true, true, true, true, true, true, true, true, true, true, true, true, true, true, true, false, false, false, false, false, false] rfl rfl (by kernel_rfl) (fun _ _ _ h => h) (Or.inr ⟨by rfl, rfl⟩) ?_ ?_
            rotate_left
            · simp only [Act.put, List.setIfInBounds_toArray, List.set_cons_zero, List.set_cons_succ, i64_w, i32_w]
              rfl
            refine pure_ (i := 22) (N := some 170) (v := undef) (a' := ?_) #[true, true, true, true, true, true, true, true, true, true, true, true, true, true, true, true, true, true, true, true, true, true, true, false, false, false, false, false] rfl rfl (by kernel_rfl) (fun _ _ _ h => h) (Or.inr ⟨by rfl, rfl⟩) ?_ ?_
            rotate_left
            · simp only [Act.put, List.setIfInBounds_toArray, List.set_cons_zero, List.set_cons_succ, i64_w, i32_w]
              rfl
            refine pure_ (i := 23) (N := some 171) (v := undef) (a' := ?_) #[true, true, true, true, true, true, true, true, true, true, true, true, true, true, true, true, true, true, true, true, true, true, true, true, false, false, false, false] rfl rfl (by kernel_rfl) (fun _ _ _ h => h) (Or.inr ⟨by rfl, rfl⟩) ?_ ?_
            rotate_left
            · simp only [Act.put, List.setIfInBounds_toArray, List.set_cons_zero, List.set_cons_succ, i64_w, i32_w]
              rfl
            refine pure_ (i := 24) (N := some 172) (v := undef) (a' := ?_) #[true, true, true, true, true, true, true, true, true, true, true, true, true, true, true, true, true, true, true, true, true, true, true, true, true, false, false, false] rfl rfl (by kernel_rfl) (fun _ _ _ h => h) (Or.inr ⟨by rfl, rfl⟩) ?_ ?_
            rotate_left
            · simp only [Act.put, List.setIfInBounds_toArray, List.set_cons_zero, List.set_cons_succ, i64_w, i32_w]
              rfl
            refine pure_ (i := 25) (N := some 173) (v := undef) (a' := ?_) #[true, true, true, true, true, true, true, true, true, true, true, true, true, true, true, true, true, true, true, true, true, true, true, true, true, true, false, false] rfl rfl (by kernel_rfl) (fun _ _ _ h => h) (Or.inr ⟨by rfl, rfl⟩) ?_ ?_
            rotate_left
            · simp only [Act.put, List.setIfInBounds_toArray, List.set_cons_zero, List.set_cons_succ, i64_w, i32_w]
              rfl
            refine pure_ (i := 26) (N := some 174) (v := ?_) (a' := ?_) #[true, true, true, true, true, true, true, true, true, true, true, true, true, true, true, true, true, true, true, true, true, true, true, true, true, true, true, false] rfl rfl (by kernel_rfl) (fun _ _ _ h => h) (Or.inl ⟨by rfl, ?_⟩) ?_ ?_
            rotate_left
            · intro w'
              go_simp
              with_reducible rfl
            rotate_left
            · simp only [Act.put, List.setIfInBounds_toArray, List.set_cons_zero, List.set_cons_succ, i64_w, i32_w]
              rfl
            refine pure_ (i := 27) (N := some 175) (v := ?_) (a' := ?_) #[true, true, true, true, true, true, true, true, true, true, true, true, true, true, true, true, true, true, true, true, true, true, true, true, true, true, true, true] rfl rfl (by kernel_rfl) (fun _ _ _ h => h) (Or.inl ⟨by rfl, ?_⟩) ?_ ?_
            rotate_left
            · intro w'
              go_simp
              with_reducible rfl
            rotate_left
            · simp only [Act.put, List.setIfInBounds_toArray, List.set_cons_zero, List.set_cons_succ, i64_w, i32_w]
              rfl
            refine done_ (by kernel_rfl) ?_
            go_wp2
            exact ⟨⟨j + 1, _, by go_num, by omega, HR.out.1.drew.setCell _ _ (fun _ => rfl), blk_set (w := wr.drew) HR.out.2.1, by simp [HR.out.2.2.1], HR.out.2.2.2 _⟩, by simp [intOf]; omega⟩
          · have hXj : X j = 90 := by rw [H13.out.2.2.2.2.2 j]; simp [List.getD_eq_getElem?_getD, List.getElem?_eq_none (Nat.le_of_not_lt hjd)]
            rw [hXj] at m1
            have HR := Lib.hid (And.intro hf3 (And.intro hb3 (And.intro hs3 hstep)))
            clear m0 hf3 hb3 hs3 hc3 hstep hfw3 hXj
            have hdA : decide ((j : Int) < (dx.length : Int)) = false := decide_eq_false (by omega)
            have hdB : decide ((dx.length : Int) ≤ (j : Int)) = true := decide_eq_true (by omega)
            have hdC : decide (dx.length ≤ j) = true := decide_eq_true (by omega)
            have hdD : decide (j < dx.length) = false := decide_eq_false (by omega)
            go_upto_region 34 with (fail)
            refine start_ (n := 28) (S := fun w' => w'.cell? ⟨gf, j, none⟩ = some (.int .u8 90)) (ds := []) #[false, false, false, false, false, false, false, false, false, false, false, false, false, false, false, false, false, false, false, false, false, false, false, false, false, false, false, false] (by kernel_rfl) rfl rfl (m1) (fun hHeld => ?_)
            refine pure_ (i := 0) (N := some 148) (v := ?_) (a' := ?_) #[true, false, false, false, false, false, false, false, false, false, false, false, false, false, false, false, false, false, false, false, false, false, false, false, false, false, false, false] rfl rfl (by kernel_rfl) (fun _ _ _ h => h) (Or.inl ⟨by rfl, ?_⟩) ?_ ?_
            rotate_left
            · intro w'
              go_simp
              with_reducible rfl
            rotate_left
            · simp only [Act.put, List.setIfInBounds_toArray, List.set_cons_zero, List.set_cons_succ, i64_w, i32_w]
              rfl
            refine pure_ (i := 1) (N := some 149) (v := ?_) (a' := ?_) #[true, true, false, false, false, false, false, false, false, false, false, false, false, false, false, false, false, false, false, false, false, false, false, false, false, false, false, false] rfl rfl (by kernel_rfl) (fun _ _ _ h => h) (Or.inl ⟨by rfl, ?_⟩) ?_ ?_
            rotate_left
            · intro w'
              go_simp
              with_reducible rfl
            rotate_left
            · simp only [Act.put, List.setIfInBounds_toArray, List.set_cons_zero, List.set_cons_succ, i64_w, i32_w]
              rfl
            refine pure_ (i := 2) (N := some 150) (v := ?_) (a' := ?_) #[true, true, true, false, false, false, false, false, false, false, false, false, false, false, false, false, false, false, false, false, false, false, false, false, false, false, false, false] rfl rfl (by kernel_rfl) (fun _ _ _ h => h) (Or.inl ⟨by rfl, ?_⟩) ?_ ?_
            rotate_left
            · intro w'
              go_simp
              with_reducible rfl
            rotate_left
            · simp only [Act.put, List.setIfInBounds_toArray, List.set_cons_zero, List.set_cons_succ, i64_w, i32_w]
              rfl
            refine pure_ (i := 3) (N := some 151) (v := ?_) (a' := ?_) #[true, true, true, true, false, false, false, false, false, false, false, false, false, false, false, false, false, false, false, false, false, false, false, false, false, false, false, false] rfl rfl (by kernel_rfl) (fun _ _ _ h => h) (Or.inl ⟨by rfl, ?_⟩) ?_ ?_
            rotate_left
            · intro w'
              go_simp
              with_reducible rfl
            rotate_left
            · simp only [Act.put, List.setIfInBounds_toArray, List.set_cons_zero, List.set_cons_succ, i64_w, i32_w]
              rfl
            refine pure_ (i := 4) (N := some 152) (v := ?_) (a' := ?_) #[true, true, true, true, true, false, false, false, false, false, false, false, false, false, false, false, false, false, false, false, false, false, false, false, false, false, false, false] rfl rfl (by kernel_rfl) (fun _ _ _ h => h) (Or.inl ⟨by rfl, ?_⟩) ?_ ?_
            rotate_left
            · intro w'
              go_simp
              with_reducible rfl
            rotate_left
            · simp only [Act.put, List.setIfInBounds_toArray, List.set_cons_zero, List.set_cons_succ, i64_w, i32_w]
              rfl
            refine pure_ (i := 5) (N := some 153) (v := undef) (a' := ?_) #[true, true, true, true, true, true, false, false, false, false, false, false, false, false, false, false, false, false, false, false, false, false, false, false, false, false, false, false] rfl rfl (by kernel_rfl) (fun _ _ _ h => h) (Or.inr ⟨by rfl, rfl⟩) ?_ ?_
            rotate_left
            · simp only [Act.put, List.setIfInBounds_toArray, List.set_cons_zero, List.set_cons_succ, i64_w, i32_w]
              rfl
            refine pure_ (i := 6) (N := some 154) (v := undef) (a' := ?_) #[true, true, true, true, true, true, true, false, false, false, false, false, false, false, false, false, false, false, false, false, false, false, false, false, false, false, false, false] rfl rfl (by kernel_rfl) (fun _ _ _ h => h) (Or.inr ⟨by rfl, rfl⟩) ?_ ?_
            rotate_left
            · simp only [Act.put, List.setIfInBounds_toArray, List.set_cons_zero, List.set_cons_succ, i64_w, i32_w]
              rfl
            refine pure_ (i := 7) (N := some 155) (v := undef) (a' := ?_) #[true, true, true, true, true, true, true, true, false, false, false, false, false, false, false, false, false, false, false, false, false, false, false, false, false, false, false, false] rfl rfl (by kernel_rfl) (fun _ _ _ h => h) (Or.inr ⟨by rfl, rfl⟩) ?_ ?_
            rotate_left
            · simp only [Act.put, List.setIfInBounds_toArray, List.set_cons_zero, List.set_cons_succ, i64_w, i32_w]
              rfl
            refine pure_ (i := 8) (N := some 156) (v := undef) (a' := ?_) #[true, true, true, true, true, true, true, true, true, false, false, false, false, false, false, false, false, false, false, false, false, false, false, false, false, false, false, false] rfl rfl (by kernel_rfl) (fun _ _ _ h => h) (Or.inr ⟨by rfl, rfl⟩) ?_ ?_
            rotate_left
            · simp only [Act.put, List.setIfInBounds_toArray, List.set_cons_zero, List.set_cons_succ, i64_w, i32_w]
              rfl
            refine pure_ (i := 9) (N := some 157) (v := undef) (a' := ?_) #[true, true, true, true, true, true, true, true, true, true, false, false, false, false, false, false, false, false, false, false, false, false, false, false, false, false, false, false] rfl rfl (by kernel_rfl) (fun _ _ _ h => h) (Or.inr ⟨by rfl, rfl⟩) ?_ ?_
            rotate_left
            · simp only [Act.put, List.setIfInBounds_toArray, List.set_cons_zero, List.set_cons_succ, i64_w, i32_w]
              rfl
            refine pure_ (i := 10) (N := some 158) (v := undef) (a' := ?_) #[true, true, true, true, true, true, true, true, true, true, true, false, false, false, false, false, false, false, false, false, false, false, false, false, false, false, false, false] rfl rfl (by kernel_rfl) (fun _ _ _ h => h) (Or.inr ⟨by rfl, rfl⟩) ?_ ?_
            rotate_left
            · simp only [Act.put, List.setIfInBounds_toArray, List.set_cons_zero, List.set_cons_succ, i64_w, i32_w]
              rfl
            refine pure_ (i := 11) (N := some 159) (v := undef) (a' := ?_) #[true, true, true, true, true, true, true, true, true, true, true, true, false, false, false, false, false, false, false, false, false, false, false, false, false, false, false, false] rfl rfl (by kernel_rfl) (fun _ _ _ h => h) (Or.inr ⟨by rfl, rfl⟩) ?_ ?_
            rotate_left
            · simp only [Act.put, List.setIfInBounds_toArray, List.set_cons_zero, List.set_cons_succ, i64_w, i32_w]
              rfl
            refine pure_ (i := 12) (N := some 160) (v := undef) (a' := ?_) #[true, true, true, true, true, true, true, true, true, true, true, true, true, false, false, false, false, false, false, false, false, false, false, false, false, false, false, false] rfl rfl (by kernel_rfl) (fun _ _ _ h => h) (Or.inr ⟨by rfl, rfl⟩) ?_ ?_
            rotate_left
            · simp only [Act.put, List.setIfInBounds_toArray, List.set_cons_zero, List.set_cons_succ, i64_w, i32_w]
              rfl
            refine pure_ (i := 13) (N := some 161) (v := undef) (a' := ?_) #[true, true, true, true, true, true, true, true, true, true, true, true, true, true, false, false, false, false, false, false, false, false, false, false, false, false, false, false] rfl rfl (by kernel_rfl) (fun _ _ _ h => h) (Or.inr ⟨by rfl, rfl⟩) ?_ ?_
            rotate_left
            · simp only [Act.put, List.setIfInBounds_toArray, List.set_cons_zero, List.set_cons_succ, i64_w, i32_w]
              rfl
            refine pure_ (i := 14) (N := some 162) (v := ?_) (a' := ?_) #[true, true, true, true, true, true, true, true, true, true, true, true, true, true, true, false, false, false, false, false, false, false, false, false, false, false, false, false] rfl rfl (by kernel_rfl) (fun _ _ _ h => h) (Or.inl ⟨by rfl, ?_⟩) ?_ ?_
            rotate_left
            · intro w'
              go_simp
              with_reducible rfl
            rotate_left
            · simp only [Act.put, List.setIfInBounds_toArray, List.set_cons_zero, List.set_cons_succ, i64_w, i32_w]
              rfl
            refine pure_ (i := 15) (N := some 163) (v := ?_) (a' := ?_) #[true, true, true, true, true, true, true, true, true, true, true, true, true, true, true, true, false, false, false, false, false, false, false, false, false, false, false, false] rfl rfl (by kernel_rfl) (fun _ _ _ h => h) (Or.inl ⟨by rfl, ?_⟩) ?_ ?_
            rotate_left
            · intro w'
              go_simp
              with_reducible rfl
            rotate_left
            · simp only [Act.put, List.setIfInBounds_toArray, List.set_cons_zero, List.set_cons_succ, i64_w, i32_w]
              rfl
            refine pure_ (i := 16) (N := some 164) (v := ?_) (a' := ?_) #[true, true, true, true, true, true, true, true, true, true, true, true, true, true, true, true, true, false, false, false, false, false, false, false, false, false, false, false] rfl rfl (by kernel_rfl) (fun _ _ _ h => h) (Or.inl ⟨by rfl, ?_⟩) ?_ ?_
            rotate_left
            · intro w'
              go_simp
              with_reducible rfl
            rotate_left
            · simp only [Act.put, List.setIfInBounds_toArray, List.set_cons_zero, List.set_cons_succ, i64_w, i32_w]
              rfl
            refine pure_ (i := 17) (N := some 165) (v := ?_) (a' := ?_) #[true, true, true, true, true, true, true, true, true, true, true, true, true, true, true, true, true, true, false, false, false, false, false, false, false, false, false, false] rfl rfl (by kernel_rfl) (fun _ _ _ h => h) (Or.inl ⟨by rfl, ?_⟩) ?_ ?_
            rotate_left
            · intro w'
              go_simp
              with_reducible rfl
            rotate_left
            · simp only [Act.put, List.setIfInBounds_toArray, List.set_cons_zero, List.set_cons_succ, i64_w, i32_w]
              rfl
            refine pure_ (i := 18) (N := some 166) (v := ?_) (a' := ?_) #[true, true, true, true, true, true, true, true, true, true, true, true, true, true, true, true, true, true, true, false, false, false, false, false, false, false, false, false] rfl rfl (by kernel_rfl) (fun _ _ _ h => h) (Or.inl ⟨by rfl, ?_⟩) ?_ ?_
            rotate_left
            · intro w'
              go_simp
              with_reducible rfl
            rotate_left
            · simp only [Act.put, List.setIfInBounds_toArray, List.set_cons_zero, List.set_cons_succ, i64_w, i32_w]
              rfl
            refine pure_ (i := 19) (N := some 167) (v := ?_) (a' := ?_) #[true, true, true, true, true, true, true, true, true, true, true, true, true, true, true, true, true, true, true, true, false, false, false, false, false, false, false, false] rfl rfl (by kernel_rfl) (fun _ _ _ h => h) (Or.inl ⟨by rfl, ?_⟩) ?_ ?_
            rotate_left
            · intro w'
              go_simp
              with_reducible rfl
            rotate_left
            · simp only [Act.put, List.setIfInBounds_toArray, List.set_cons_zero, List.set_cons_succ, i64_w, i32_w]
              rfl
            refine pure_ (i := 20) (N := some 168) (v := ?_) (a' := ?_) #[true, true, true, true, true, true, true, true, true, true, true, true, true, true, true, true, true, true, true, true, true, false, false, false, false, false, false, false] rfl rfl (by kernel_rfl) (fun _ _ _ h => h) (Or.inl ⟨by rfl, ?_⟩) ?_ ?_
            rotate_left
            · intro w'
              go_simp
              with_reducible rfl
            rotate_left
            · simp only [Act.put, List.setIfInBounds_toArray, List.set_cons_zero, List.set_cons_succ, i64_w, i32_w]
              rfl
            refine pure_ (i := 21) (N := some 169) (v := ?_) (a' := ?_) #[true, true, true, true, true, true, true, true, true, true, true, true, true, true, true, true, true, true, true, true, true, true, false, false, false, false, false, false] rfl rfl (by kernel_rfl) (fun _ _ _ h => h) (Or.inl ⟨by rfl, ?_⟩) ?_ ?_
            rotate_left
            · intro w'
              go_simp
              with_reducible rfl
            rotate_left
            · simp only [Act.put, List.setIfInBounds_toArray, List.set_cons_zero, List.set_cons_succ, i64_w, i32_w]
              rfl
            refine pure_ (i := 22) (N := some 170) (v := ?_) (a' := ?_) #[true, true, true, true, true, true, true, true, true, true, true, true, true, true, true, true, true, true, true, true, true, true, true, false, false, false, false, false] rfl rfl (by kernel_rfl) (fun _ _ _ h => h) (Or.inl ⟨by rfl, ?_⟩) ?_ ?_
            rotate_left
            · intro w'
              go_simp
              with_reducible rfl
            rotate_left
            · simp only [Act.put, List.setIfInBounds_toArray, List.set_cons_zero, List.set_cons_succ, i64_w, i32_w]
              rfl
            refine pure_ (i := 23) (N := some 171) (v := ?_) (a' := ?_) #[true, true, true, true, true, true, true, true, true, true, true, true, true, true, true, true, true, true, true, true, true, true, true, true, false, false, false, false] rfl rfl (by kernel_rfl) (fun _ _ _ h => h) (Or.inl ⟨by rfl, ?_⟩) ?_ ?_
            rotate_left
            · intro w'
              go_simp
              with_reducible rfl
            rotate_left
            · simp only [Act.put, List.setIfInBounds_toArray, List.set_cons_zero, List.set_cons_succ, i64_w, i32_w]
              rfl
            refine take_ (i := 24) (N := some 172) (v := ?_) (a' := ?_) #[true, true, true, true, true, true, true, true, true, true, true, true, true, true, true, true, true, true, true, true, true, true, true, true, true, false, false, false] rfl rfl (by kernel_rfl) (fun _ _ _ h => h) (Or.inl ⟨by rfl, ?_⟩) hHeld ?_ ?_
            rotate_left
            · intro w' s0
              go_simp
              with_reducible rfl
            rotate_left
            · simp only [Act.put, List.setIfInBounds_toArray, List.set_cons_zero, List.set_cons_succ, i64_w, i32_w]
              rfl
            refine pure_ (i := 25) (N := some 173) (v := ?_) (a' := ?_) #[true, true, true, true, true, true, true, true, true, true, true, true, true, true, true, true, true, true, true, true, true, true, true, true, true, true, false, false] rfl rfl (by kernel_rfl) (fun _ _ _ h => h) (Or.inl ⟨by rfl, ?_⟩) ?_ ?_
            rotate_left
            · intro w'
              go_simp
              with_reducible rfl
            rotate_left
            · simp only [Act.put, List.setIfInBounds_toArray, List.set_cons_zero, List.set_cons_succ, i64_w, i32_w]
              rfl
            refine pure_ (i := 26) (N := some 174) (v := ?_) (a' := ?_) #[true, true, true, true, true, true, true, true, true, true, true, true, true, true, true, true, true, true, true, true, true, true, true, true, true, true, true, false] rfl rfl (by kernel_rfl) (fun _ _ _ h => h) (Or.inl ⟨by rfl, ?_⟩) ?_ ?_
            rotate_left
            · intro w'
              go_simp
              with_reducible rfl
            rotate_left
            · simp only [Act.put, List.setIfInBounds_toArray, List.set_cons_zero, List.set_cons_succ, i64_w, i32_w]
              rfl
            refine pure_ (i := 27) (N := some 175) (v := ?_) (a' := ?_) #[true, true, true, true, true, true, true, true, true, true, true, true, true, true, true, true, true, true, true, true, true, true, true, true, true, true, true, true] rfl rfl (by kernel_rfl) (fun _ _ _ h => h) (Or.inl ⟨by rfl, ?_⟩) ?_ ?_
            rotate_left
            · intro w'
              go_simp
              with_reducible rfl
            rotate_left
            · simp only [Act.put, List.setIfInBounds_toArray, List.set_cons_zero, List.set_cons_succ, i64_w, i32_w]
              rfl
            refine done_ (by kernel_rfl) ?_
            go_wp2
            exact ⟨⟨j + 1, _, by go_num, by omega, HR.out.1.drew.setCell _ _ (fun _ => rfl), blk_set (w := wr.drew) HR.out.2.1, by simp [HR.out.2.2.1], HR.out.2.2.2 _⟩, by simp [intOf]; omega⟩
        · obtain rfl : j = i := by omega
          as_aux_lemma =>
          obtain ⟨w18, hw18⟩ : ∃ w18, w18 = wr := ⟨_, rfl⟩
          subst hw18
          have hL18 : Live w.heap.size w18 b lab2 eb l7 1048578 (1048576 + dx.length) D2 := H17.out.1.off_ hf3 (fun k hk => by subst hk; exact ⟨H17.out.2.2.1, H17.out.2.2.2.2.2.2.2.2⟩)
          have hfw18 : Frm (fun _ => False) w w18 := H17.out.2.2.2.2.2.2.1.trans hf3 (fun k hk e => by have := H17.out.2.2.2.2.2.2.2.2; omega)
          have hlO : old.length ≤ 1048576 := HD15.out.2.2.2.2.2.1
          have f1618 : Frm (fun k => k < w15.heap.size) w16 w18 := (H17.out.2.1.mono (fun k _ hk => (H17.out.2.2.2.2.1 k hk).2)).trans hf3 (fun k hk e => by have := H17.out.2.2.2.2.2.2.2.1; omega)
          have KRD := hL18.self.readC ⟨#[107, 101, 112, 116]⟩
          rw [HD15.out.2.2.2.2.1.1, errV_zero, HD15.out.2.2.2.2.1.2] at KRD
          have KRD2 : Hid (Calls Tryz.prog 45 #[.pointer (some ⟨b, 0, none⟩), .string ⟨#[107, 101, 112, 116]⟩] w18 fun e w' => ∃ p c p2 n2 c2, e = .returned (.tuple #[.slice p (old ++ dx).length c, .slice p2 n2 c2, .nilIface]) ∧ w'.ownsRow w18.heap.size 5 1 (.slice p (old ++ dx).length c) (old ++ dx).length (u8s (old ++ dx)) ∧ Frm (fun _ => False) w18 w') := Lib.hid (KRD.mono (by
            rintro e w' ⟨dv, bv, rfl, h1, h2, h3⟩
            obtain ⟨p1, c1, rfl⟩ := own_form h1
            obtain ⟨p2, c2, rfl⟩ := own_form h2
            exact ⟨p1, c1, p2, _, c2, rfl, h1, h3⟩))
          obtain ⟨L, hLL⟩ : ∃ L, L = (old ++ dx).length := ⟨_, rfl⟩
          rw [← hLL] at KRD2
          have HLL := Lib.hid hLL
          have H18 := Lib.hid (And.intro hL18 (And.intro hfw18 (And.intro hf3 (And.intro f1618 hlO))))
          clear hL18 hfw18 hlO f1618 KRD hf3 hb3 hs3 hc3 hLL
          go_upto_region 38 with (first
            | (go_at_call 45; refine KRD2.out.mono ?_; rintro e w19 ⟨pN, cN, pb2, nb2, cb2, rfl, hr19, f19⟩; have H19 := Lib.hid (And.intro hr19 f19); clear hr19 f19))
          have hr19 := H19.out.1
          have hLe := HLL.out
          have f1619 : Frm (fun k => k < w15.heap.size) w16 w19 := H18.out.2.2.2.1.trans H19.out.2 (fun _ _ h => h.elim)
          have hfw19 : Frm (fun _ => False) w w19 := H18.out.2.1.trans H19.out.2 (fun _ _ h => h)
          have ho19 := own_frm_off H16.out.1 f1619 (fun k hk h => by have := (own_low H16.out.1 hk).1; omega)
          obtain ⟨sO, hsO⟩ : ∃ sO, sO = strOfNums old := ⟨_, rfl⟩
          obtain ⟨sX, hsX⟩ : ∃ sX, sX = strOfNums dx := ⟨_, rfl⟩
          have z1 : sO.size = old.length := by rw [hsO, strOfNums_size]
          have z2 : sX.size = dx.length := by rw [hsX, strOfNums_size]
          have z4 : ¬ 9223372036854775807 < old.length + dx.length := by have := H18.out.2.2.2.2; omega
          have zc : Hid (∀ W pX cX, Frm (fun k => k < w15.heap.size) w16 W → Frm (fun _ => False) w W → W.ownsRow 0 5 1 (.slice pX L cX) L (u8s (old ++ dx)) → (convert 22 9 (.slice pX L cX)).run Tryz.prog W = .ok (.string (sO ++ sX)) W ∧ (convert 22 9 (.slice pO old.length cO)).run Tryz.prog W = .ok (.string sO) W ∧ (convert 22 9 (.slice Ad dx.length cd)).run Tryz.prog W = .ok (.string sX) W) := fun W pX cX hW1 hW2 hr => by
            refine ⟨?_, ?_, ?_⟩
            · rw [HLL.out] at hr ⊢
              rw [show sO ++ sX = strOfNums (old ++ dx) by rw [hsO, hsX, str_append2]]
              exact Go.Proofs.YtglhedahannjiaaGreatDoorW.PrintWords.string_of_reads Tryz.underlying22 Tryz.underlying5 Tryz.underlying9 (Go.Proofs.YtglhedahannjiaaGreatDoorW.PrintWords.own_reads' hr)
            · have h1 := own_frm_off H16.out.1 hW1 (fun k hk h => by have := (own_low H16.out.1 hk).1; omega)
              rw [hsO]
              exact Go.Proofs.YtglhedahannjiaaGreatDoorW.PrintWords.string_of_reads Tryz.underlying22 Tryz.underlying5 Tryz.underlying9 (Go.Proofs.YtglhedahannjiaaGreatDoorW.PrintWords.own_reads' h1)
            · have h1 : ReadsInt W .u8 Ad dx.length dx := HDX.out.1.below (hW2.below (fun _ h => h.elim) (Nat.le_refl _))
              rw [hsX]
              exact Go.Proofs.YtglhedahannjiaaGreatDoorW.PrintWords.string_of_reads Tryz.underlying22 Tryz.underlying5 Tryz.underlying9 h1
          obtain ⟨cv1, cv2, cv3⟩ := zc.out w19 _ _ f1619 hfw19 (Go.Proofs.YtglhedahannjiaaGreatDoorW.PrintWords.own_weaken hr19 (Nat.zero_le _))
          have HZ := Lib.hid (And.intro f1619 (And.intro hfw19 hr19))
          clear hr19 hLe f1619 hfw19 ho19 hsO hsX KRD2
          have KSA := Lib.hid (And.intro H18.out.1.self.seenC (And.intro H18.out.1.self.seenOk (And.intro H18.out.1.self.safeC (H18.out.1.self.crashOk [] 0))))
          have hL19 := H18.out.1.frm H19.out.2
          have hsl := seen_len hL19.inv hL19.sz.len
          have hsi := seen_img hL19.inv
          obtain ⟨s2, hs2⟩ : ∃ s2, s2 = D2.seenImg := ⟨_, rfl⟩
          obtain ⟨s3, hs3⟩ : ∃ s3, s3 = D2.crash [] 0 := ⟨_, rfl⟩
          obtain ⟨NA, hNA⟩ : ∃ NA, NA = allN s2 := ⟨_, rfl⟩
          obtain ⟨s4, hs4⟩ : ∃ s4, s4 = D2.crash (List.replicate NA 1) 9 := ⟨_, rfl⟩
          have hNAb : NA ≤ 4398046511104 := by
            have h1 := allN_le (l := s2) (by rw [hs2]; exact Nat.le_trans hsl.1 hL19.sz.files) (by rw [hs2]; exact hsl.2)
            have h2 : dx.length ≤ 1048576 := by omega
            omega
          have KS : Hid (∀ W, Frm (fun _ => False) w19 W → Calls Tryz.prog 29 #[.pointer (some ⟨b, 0, none⟩)] W fun e w' => ∃ A c, e = .returned (.agg #[.slice A s2.length c]) ∧ ImgAt w' W.heap.size (.agg #[.slice A s2.length c]) s2 ∧ Frm (fun _ => False) W w') := fun W hW => by
            have := (hL19.self.on hW).seenC
            rw [← hs2] at this
            exact this
          have KF : Hid (∀ W, Frm (fun _ => False) w19 W → Calls Tryz.prog 31 #[.pointer (some ⟨b, 0, none⟩)] W fun e w' => ∃ A c, e = .returned (.agg #[.slice A s3.length c]) ∧ ImgAt w' W.heap.size (.agg #[.slice A s3.length c]) s3 ∧ Frm (fun _ => False) W w') := fun W hW => by
            have := (hL19.self.on hW).safeC
            rw [← hs3] at this
            exact this
          have KC : Hid (∀ W p c base, Frm (fun _ => False) w19 W → W.ownsRow base 3 1 (.slice p NA c) NA (i64s (List.replicate NA 1)) → Calls Tryz.prog 17 #[.pointer (some ⟨b, 0, none⟩), .agg #[.slice p NA c, .int .i64 9]] W fun e w' => ∃ A c, e = .returned (.agg #[.slice A s4.length c]) ∧ ImgAt w' W.heap.size (.agg #[.slice A s4.length c]) s4 ∧ Frm (fun _ => False) W w') := fun W p c base hW hr => by
            have := (hL19.self.on hW).crashC (List.replicate NA 1) 9 p c (own_ints hr) (by rw [List.length_replicate]; omega)
            rw [List.length_replicate, ← hs4] at this
            exact this
          have KA : Hid (∀ W v, ImgRd W v s2 → Calls Tryz.prog 39 #[v, .int .i64 1] W fun e w' => ∃ p c, e = .returned (.slice p NA c) ∧ NA ≤ c ∧ w'.ownsRow W.heap.size 3 1 (.slice p NA c) NA (i64s (List.replicate NA 1)) ∧ Frm (fun _ => False) W w') := fun W v hv => by
            have := all_calls W v s2 1 hv (fun p hp => by have := hsl.2 p (by rw [← hs2]; exact hp); omega) (by rw [← hNA]; exact hNAb)
            rw [← hNA] at this
            exact this
          have HS := Lib.hid (And.intro hs2 (And.intro hs3 (And.intro hs4 (And.intro hNA hsl))))
          have HL19 := Lib.hid hL19
          clear hL19 hsl hsi hs2 hs3 hs4 hNA KSA
          go_upto_region 42 with (first
            | (go_at_call 29; refine (KS.out _ (Frm.refl _ _)).mono ?_; rintro e w20 ⟨p20, c20, rfl, hi20, f20⟩; have H20 := Lib.hid (And.intro hi20 f20); clear hi20 f20)
            | (go_at_call 31; refine (KF.out _ (H20.out.2.alloc _)).mono ?_; rintro e w22 ⟨p22, c22, rfl, hi22, f22⟩; have H22 := Lib.hid (And.intro hi22 f22); have x22 : w22.cell? ⟨w20.heap.size, 0, none⟩ = some (.slice p20 s2.length c20) := cell_of ((f22.block _ (by simp) id).trans blk_alloc) rfl; clear hi22 f22))
          as_aux_lemma =>
          obtain ⟨w23, hw23⟩ : ∃ w23, w23 = w22.alloc (.cells #[.slice p22 s3.length c22] 36) := ⟨_, rfl⟩
          rw [← hw23]
          have f2223 : Frm (fun _ => False) w22 w23 := by rw [hw23]; exact (Frm.refl _ _).alloc _
          have f2022 : Frm (fun _ => False) w20 w22 := ((Frm.refl _ _).alloc _).trans H22.out.2 (fun _ _ h => h)
          have f2023 : Frm (fun _ => False) w20 w23 := f2022.trans f2223 (fun _ _ h => h)
          have f1923 : Frm (fun _ => False) w19 w23 := H20.out.2.trans f2023 (fun _ _ h => h)
          have bx22 : w23.heap[w20.heap.size]? = some (.cells #[.slice p20 s2.length c20] 36 (0, 0)) := (f2223.block _ (by have := H22.out.2.size; simp only [World.size_alloc] at this; omega) id).trans ((H22.out.2.block _ (by simp) id).trans blk_alloc)
          have bx23 : w23.heap[w22.heap.size]? = some (.cells #[.slice p22 s3.length c22] 36 (0, 0)) := by rw [hw23]; exact blk_alloc
          have x23 : w23.cell? ⟨w20.heap.size, 0, none⟩ = some (.slice p20 s2.length c20) := cell_of bx22 rfl
          have sz2022 : w20.heap.size < w22.heap.size := by have := H22.out.2.size; simp only [World.size_alloc] at this; omega
          have sz2223 : w22.heap.size < w23.heap.size := Da.blk_lt bx23
          have rd20 : ∀ W, Frm (fun _ => False) w23 W → ImgRd W (.agg #[.slice p20 s2.length c20]) s2 := fun W hW => (H20.out.1.keep2 (f2023.trans hW (fun _ _ h => h)) (fun _ _ h => h.elim)).rd
          have KA1 : Hid (∀ W, Frm (fun _ => False) w23 W → Calls Tryz.prog 39 #[.agg #[.slice p20 s2.length c20], .int .i64 1] W fun e w' => ∃ p c, e = .returned (.slice p NA c) ∧ NA ≤ c ∧ w'.ownsRow W.heap.size 3 1 (.slice p NA c) NA (i64s (List.replicate NA 1)) ∧ Frm (fun _ => False) W w') := fun W hW => KA.out W _ (rd20 W hW)
          have H23 := Lib.hid (And.intro f1923 (And.intro f2023 (And.intro bx22 (And.intro bx23 (And.intro sz2022 (And.intro sz2223 (And.intro f2223 f2022)))))))
          have f23 := f1923
          clear f2223 f2022 f2023 f1923 bx22 bx23 sz2022 sz2223 rd20 KA x22 hw23
          go_upto_region 43 with (first
            | (go_at_call 39; refine (KA1.out _ (Frm.refl _ _)).mono ?_; rintro e w24 ⟨p24, c24, rfl, hc24, hr24, f24⟩; have H24 := Lib.hid (And.intro hr24 f24); clear hc24 hr24 f24)
            | (go_at_call 17; refine (KC.out _ _ _ _ (H23.out.1.trans H24.out.2 (fun _ _ h => h)) H24.out.1).mono ?_; rintro e w25 ⟨p25, c25, rfl, hi25, f25⟩; have H25 := Lib.hid (And.intro hi25 f25); clear hi25 f25))
          obtain ⟨w26, hw26⟩ : ∃ w26, w26 = w25.alloc (.cells #[.slice p25 s4.length c25] 36) := ⟨_, rfl⟩
          rw [← hw26]
          have f2526 : Frm (fun _ => False) w25 w26 := by rw [hw26]; exact (Frm.refl _ _).alloc _
          have f2325 : Frm (fun _ => False) w23 w25 := H24.out.2.trans H25.out.2 (fun _ _ h => h)
          have f2326 : Frm (fun _ => False) w23 w26 := f2325.trans f2526 (fun _ _ h => h)
          have bx25 : w26.heap[w25.heap.size]? = some (.cells #[.slice p25 s4.length c25] 36 (0, 0)) := by rw [hw26]; exact blk_alloc
          have x26 : w26.cell? ⟨w20.heap.size, 0, none⟩ = some (.slice p20 s2.length c20) := frm_cell f2326 x23
          have H26 := Lib.hid (And.intro f2526 (And.intro f2325 (And.intro f2326 bx25)))
          clear f2526 f2325 f2326 bx25 x23 hw26
          go_upto_region 44 with (first
            | (go_at_call 39; refine (KA1.out _ H26.out.2.2.1).mono ?_; rintro e w27 ⟨p27, c27, rfl, hc27, hr27, f27⟩; have H27 := Lib.hid (And.intro hr27 f27); clear hc27 hr27 f27)
            | (go_at_call 17; refine (KC.out _ _ _ _ ((H23.out.1.trans H26.out.2.2.1 (fun _ _ h => h)).trans H27.out.2 (fun _ _ h => h)) H27.out.1).mono ?_; rintro e w28 ⟨p28, c28, rfl, hi28, f28⟩; have H28 := Lib.hid (And.intro hi28 f28); clear hi28 f28))
          obtain ⟨w29, hw29⟩ : ∃ w29, w29 = w28.alloc (.cells #[.slice p28 s4.length c28] 36) := ⟨_, rfl⟩
          rw [← hw29]
          have f2829 : Frm (fun _ => False) w28 w29 := by rw [hw29]; exact (Frm.refl _ _).alloc _
          have bx28 : w29.heap[w28.heap.size]? = some (.cells #[.slice p28 s4.length c28] 36 (0, 0)) := by rw [hw29]; exact blk_alloc
          have f2629 : Frm (fun _ => False) w26 w29 := (H27.out.2.trans H28.out.2 (fun _ _ h => h)).trans f2829 (fun _ _ h => h)
          have f2529 : Frm (fun _ => False) w25 w29 := H26.out.1.trans f2629 (fun _ _ h => h)
          have f2329 : Frm (fun _ => False) w23 w29 := H26.out.2.2.1.trans f2629 (fun _ _ h => h)
          have f2229 : Frm (fun _ => False) w22 w29 := H23.out.2.2.2.2.2.2.1.trans f2329 (fun _ _ h => h)
          have f2029 : Frm (fun _ => False) w20 w29 := H23.out.2.1.trans f2329 (fun _ _ h => h)
          have f1929 : Frm (fun _ => False) w19 w29 := H20.out.2.trans f2029 (fun _ _ h => h)
          -- the sizes
          have n1 : w15.heap.size ≤ w18.heap.size := by have h1 := H16.out.2.size; have h2 := H18.out.2.2.2.1.size; omega
          have n2 : w18.heap.size ≤ w19.heap.size := H19.out.2.size
          have n3 : w19.heap.size ≤ w20.heap.size := H20.out.2.size
          have n4 := H23.out.2.2.2.2.1
          have n5 := H23.out.2.2.2.2.2.1
          have n6 : w23.heap.size ≤ w24.heap.size := H24.out.2.size
          have n7 : w24.heap.size ≤ w25.heap.size := H25.out.2.size
          have n8 : w25.heap.size < w26.heap.size := Da.blk_lt H26.out.2.2.2
          have n9 : w26.heap.size ≤ w27.heap.size := H27.out.2.size
          have na : w27.heap.size ≤ w28.heap.size := H28.out.2.size
          have nb : w28.heap.size < w29.heap.size := Da.blk_lt bx28
          have nc : ∀ k, Ft lab2 k → w.heap.size ≤ k ∧ k < w18.heap.size := fun k hk => ⟨(H17.out.2.2.2.2.2.1 k hk).1, by have h1 := (H17.out.2.2.2.2.2.1 k hk).2; have h2 := H18.out.2.2.1.size; omega⟩
          have nd : w.heap.size ≤ w15.heap.size := HD15.out.2.2.2.2.2.2.2.2.2.size
          obtain ⟨G, hG⟩ : ∃ G : Nat → Prop, ∀ k, G k ↔ (w29.heap.size ≤ k ∨ (w24.heap.size ≤ k ∧ k < w25.heap.size) ∨ (w18.heap.size ≤ k ∧ k < w20.heap.size)) := ⟨_, fun _ => Iff.rfl⟩
          have HG := Lib.hid hG
          -- what is held, whatever G turns
          have HU : Hid (∀ W, Frm G w29 W → Live w.heap.size W b lab2 eb l7 1048578 (1048576 + dx.length) D2 ∧ ImgRd W (.agg #[.slice p22 s3.length c22]) s3 ∧ ImgRd W (.agg #[.slice p28 s4.length c28]) s4 ∧ Frm (fun k => k < w15.heap.size) w16 W ∧ Frm (fun _ => False) w W ∧ W.heap[w20.heap.size]? = some (.cells #[.slice p20 s2.length c20] 36 (0, 0)) ∧ W.heap[w22.heap.size]? = some (.cells #[.slice p22 s3.length c22] 36 (0, 0)) ∧ W.heap[w25.heap.size]? = some (.cells #[.slice p25 s4.length c25] 36 (0, 0)) ∧ W.heap[w28.heap.size]? = some (.cells #[.slice p28 s4.length c28] 36 (0, 0))) := by
            intro W hW
            have hfw29 : Frm (fun _ => False) w w29 := HZ.out.2.1.trans f1929 (fun _ _ h => h)
            have hb : ∀ (k : Nat) (o : Obj), ¬ G k → w29.heap[k]? = some o → W.heap[k]? = some o := fun k o hn h => (hW.block _ (Da.blk_lt h) hn).trans h
            have fo : ∀ {a : World}, Frm (fun _ => False) a w29 → Frm G a W := fun h => (h.mono (fun _ _ h => h.elim)).trans hW (fun _ _ h => h)
            refine ⟨(HL19.out.frm f1929).off_ hW (fun k hk => ?_), (H22.out.1.keep2 (fo f2229) (fun k hk hg => ?_)).rd, (H28.out.1.keep2 (fo f2829) (fun k hk hg => ?_)).rd, ?_, hfw29.trans hW (fun k hk hg => ?_), hb _ _ (fun hg => ?_) ((f2329.block _ (Da.blk_lt H23.out.2.2.1) id).trans H23.out.2.2.1), hb _ _ (fun hg => ?_) ((f2329.block _ (Da.blk_lt H23.out.2.2.2.1) id).trans H23.out.2.2.2.1), hb _ _ (fun hg => ?_) ((f2629.block _ (Da.blk_lt H26.out.2.2.2) id).trans H26.out.2.2.2), hb _ _ (fun hg => ?_) bx28⟩
            · have h1 := (hG k).1 hk
              refine ⟨?_, by omega⟩
              cases hx : lab2 k with
              | none => rfl
              | some y =>
                have := nc k (by unfold Ft; rw [hx]; rfl)
                omega
            · have := (hG k).1 hg; simp only [World.size_alloc]; omega
            · have := (hG k).1 hg; have := H26.out.2.2.1.size; omega
            · refine (HZ.out.1.trans f1929 (fun _ _ h => h.elim)).trans hW (fun k hk hg => ?_)
              have h1 := (hG k).1 hg
              have h2 := H18.out.2.2.2.1.size
              omega
            · have := (hG k).1 hg; omega
            all_goals
              have := (hG _).1 hg
              omega
          as_aux_lemma =>
          have HN := Lib.hid (And.intro n1 (And.intro n2 (And.intro n3 (And.intro n4 (And.intro n5 (And.intro n6 (And.intro n7 (And.intro n8 (And.intro n9 (And.intro na (And.intro nb (And.intro nc nd))))))))))))
          have HF := Lib.hid (And.intro f2529 (And.intro f2029 (And.intro f1929 f2229)))
          have hE29 : Errs15 w29.heap.size w29 eb := (H15.out.frm (HU.out w29 (Frm.refl _ _)).2.2.2.2.1 (fun _ h => h.elim)).up (HU.out w29 (Frm.refl _ _)).2.2.2.2.1.size
          have HLO := Lib.hid (Live.bornB hE29.errs (Nat.le_refl _) (n := 0) (m := 0) (.small (by omega) (by omega)))
          have hbo : ∀ k, Ft (bornLab w29.heap.size) k → w29.heap.size ≤ k := fun k hk => by
            obtain ⟨p, hp⟩ := Option.isSome_iff_exists.1 hk
            exact ((Go.Proofs.YtglhedahannjiaaGreatDoor.Dw.born w29).base k p hp).1
          have hWo : ∀ W n' m' D', Next w29.heap.size (wBorn w29) (bornLab w29.heap.size) W (w29.heap.size + 2) eb l7 n' m' D' → Frm G w29 W ∧ w29.heap.size ≤ W.heap.size ∧ Frm (fun k => w29.heap.size ≤ k) w29 W := fun W n' m' D' h => by
            have h1 : Frm (fun k => w29.heap.size ≤ k) w29 W := (Frm.of_below (born_below w29) _).trans h.frmF (fun k hk hl => hbo k hl)
            exact ⟨h1.mono (fun k _ hk => (hG k).2 (.inl hk)), h1.size, h1⟩
          have HWO := Lib.hid hWo
          have KN := Lib.hid (fun w => new_calls w)
          clear n1 n2 n3 n4 n5 n6 n7 n8 n9 na nb nc nd f2829 bx28 f2629 f2529 f2329 f2229 f2029 f1929 hG hE29 hbo hWo x26 hw29 f23 KS KF KC KA1
          go_upto_region 45 with (first
            | (go_at_call 11; refine (KN.out _).mono ?_; rintro e w30 ⟨rfl, rfl⟩))
          have HZZ := Lib.hid (And.intro z1 (And.intro z2 z4))
          clear z1 z2 z4 cv1 cv2 cv3 hmx e20 hN20 hdi hlt hlt3
          unfold dptr
          go_wp2
          go_loopw [27] (fun v wr => ∃ j, ∃ D3 : Disk, v = .int .i64 (j : Nat) ∧ j ≤ os.length ∧ j ≤ 64 ∧ Next w29.heap.size (wBorn w29) (bornLab w29.heap.size) wr (w29.heap.size + 2) eb l7 j (j * 1048576) D3) (fun v _ => 64 - (intOf v).toNat)
          case atStart => exact ⟨0, Disk.new, rfl, Nat.zero_le _, Nat.zero_le _, HLO.out.self⟩
          case round =>
          obtain ⟨j4, D3, rfl, hj4, hj64, hnx⟩ := hrel
          have HNX := Lib.hid hnx
          have hfw := (HU.out _ (HWO.out _ _ _ _ hnx).1).2.2.2.2.1
          by_cases hlt4 : j4 < os.length ∧ j4 < 64
          · obtain ⟨hlt, hlt2⟩ := hlt4
            obtain ⟨x, hx⟩ : ∃ x, os[j4]? = some x := ⟨_, List.getElem?_eq_getElem hlt⟩
            obtain ⟨ad, B1, d1, B2, d2, B3, d3, rfl, k0, k1, k2, k3, k4, k5, k6, k7, k8, hin, _⟩ := op_cells hfw HA.out.1.ops hx
            have hxok := HA.out.1.ok x (List.mem_of_getElem? hx)
            have hjc : j4 < cs := by have := HA.out.1.cap; omega
            by_cases hk16 : x.kind = 16
            · rw [hk16] at k0
              clear hk16 hin hxok hx hnx hfw
              go_wp2
              exact ⟨⟨j4 + 1, D3, by go_num, by omega, by omega, HNX.out.askSkip (by repeat (first | (with_reducible assumption) | (with_reducible exact Frm.refl _ _) | (with_reducible apply Frm.drewN) | (with_reducible apply Frm.drew) | (with_reducible apply Frm.alloc) | (with_reducible refine Frm.setCell ?_ _ _ (fun h => absurd h (by first | (simp; done) | (simp; omega)))))) (.small (by omega) (by omega)) (by omega)⟩, by simp [intOf]; omega⟩
            · have hb16 : (x.kind == 16) = false := beq_eq_false_iff_ne.2 hk16
              have hn16 : (x.kind != 16) = true := by simpa using hk16
              by_cases hdl1 : x.data.length ≤ 1048576
              · have KA := Lib.hid (hnx.askC (m2 := (j4 + 1) * 1048576) ((H15.out.frm hfw (fun _ h => h.elim)).up (HU.out w29 (Frm.refl _ _)).2.2.2.2.1.size) (HWO.out _ _ _ _ hnx).2.1 (hfw.mono (fun _ _ h => h.elim)) (HU.out w29 (Frm.refl _ _)).2.2.2.2.1.size x _ hin hxok (by omega) (fun _ => by omega) (.small (by omega) (by omega)))
                clear hk16 hin hxok hx hnx hfw
                unfold dptr at KA
                go_wp2_with (first
                  | (go_at_call 25; refine KA.out.mono ?_; rintro e w31 ⟨av, rfl, _, hx31⟩; have HX := Lib.hid hx31; clear hx31))
                exact ⟨⟨j4 + 1, _, by go_num, by omega, by omega, HX.out⟩, by simp [intOf]; omega⟩
              · have hdl2 : ¬ ((x.data.length : Int) ≤ 1048576) := by omega
                clear hk16 hin hxok hx hnx hfw
                go_wp2
                exact ⟨⟨j4 + 1, D3, by go_num, by omega, by omega, HNX.out.askSkip (by repeat (first | (with_reducible assumption) | (with_reducible exact Frm.refl _ _) | (with_reducible apply Frm.drewN) | (with_reducible apply Frm.drew) | (with_reducible apply Frm.alloc) | (with_reducible refine Frm.setCell ?_ _ _ (fun h => absurd h (by first | (simp; done) | (simp; omega)))))) (.small (by omega) (by omega)) (by omega)⟩, by simp [intOf]; omega⟩
          · go_upto_region 46 with (fail)
            go_cut [224] from 217 to 247 (fun t wx => t = .bool false ∧ wx = wr)
            case first =>
              by_cases hl2 : j4 < os.length
              · obtain rfl : j4 = 64 := by omega
                go_wp2
                go_meet
                case rel => exact ⟨rfl, rfl⟩
              · obtain rfl : j4 = os.length := by omega
                go_wp2
                go_meet
                case rel => exact ⟨rfl, rfl⟩
            case rest =>
              obtain ⟨rfl, rfl⟩ := hcut
              as_aux_lemma =>
              obtain ⟨w31, hw31⟩ : ∃ w31, w31 = wc := ⟨_, rfl⟩
              subst hw31
              obtain ⟨g31, g31s, g31o⟩ := HWO.out _ _ _ _ HNX.out
              have hG := HG.out
              obtain ⟨n1, n2, n3, n4, n5, n6, n7, n8, n9, na, nb, nc, nd⟩ := HN.out
              obtain ⟨f2529, f2029, f1929, f2229⟩ := HF.out
              have ff : ∀ {a : World}, Frm (fun _ => False) a w29 → Frm (fun _ => False) a w31 := fun {a} h => h.trans g31o (fun k hk hl => by have := h.size; omega)
              obtain ⟨hL31, rd22, rd28, fo31, fw31, bx22, bx23, bx25, bx28⟩ := HU.out _ g31
              have rd20 : ImgRd w31 (.agg #[.slice p20 s2.length c20]) s2 := (H20.out.1.keep2 (ff f2029) (fun _ _ h => h.elim)).rd
              obtain ⟨hs2, hs3, hs4, hNA, hsl⟩ := HS.out
              have ok2 : ImgOk s2 := by rw [hs2]; exact hL31.self.seenOk
              have ok3 : ImgOk s3 := by rw [hs3]; exact hL31.self.crashOk [] 0
              have ok4 : ImgOk s4 := by rw [hs4]; exact hL31.self.crashOk _ _
              have bd2 : s2.length ≤ 1048578 ∧ ∀ p, p ∈ s2 → p.data.length ≤ 1099511627776 ∧ p.bad.length ≤ 1099511627776 := by
                rw [hs2]
                exact ⟨Nat.le_trans hsl.1 hL31.sz.files, fun p hp => ⟨by have := hsl.2 p hp; omega, Nat.le_trans (seen_bad p hp) (by have := hsl.2 p hp; unfold sectors; omega)⟩⟩
              have bd4 : s4.length ≤ 1099511627776 ∧ ∀ p, p ∈ s4 → p.data.length ≤ 1099511627776 ∧ p.bad.length ≤ 1099511627776 := by
                rw [hs4]
                have h4 := crash_len hL31.inv (List.replicate NA 1) 9 hL31.sz.len
                exact ⟨by have := h4.1; have := hL31.sz.files; omega, fun p hp => ⟨by have := h4.2 p hp; omega, Nat.le_trans (crash_bad p hp) (by have := h4.2 p hp; unfold sectors; omega)⟩⟩
              obtain ⟨SA, hSA⟩ : ∃ SA : Nat → Prop, ∀ k, SA k ↔ ((w24.heap.size ≤ k ∧ k < w25.heap.size) ∨ (w18.heap.size ≤ k ∧ k < w20.heap.size)) := ⟨_, fun _ => Iff.rfl⟩
              have hSAlt : ∀ k, SA k → k < w29.heap.size := fun k hk => by have := (hSA k).1 hk; omega
              have cap20 : s2.length ≤ c20 := by obtain ⟨A, c, e, h, _⟩ := H20.out.1.rd; obtain ⟨rfl, rfl⟩ : p20 = A ∧ c20 = c := by simpa using e
                                                 exact h
              have cap25 : s4.length ≤ c25 := by obtain ⟨A, c, e, h, _⟩ := H25.out.1.rd; obtain ⟨rfl, rfl⟩ : p25 = A ∧ c25 = c := by simpa using e
                                                 exact h
              have KSL : Hid (∀ W, Sp SA w31 W → Calls Tryz.prog 46 #[.agg #[.slice p25 s4.length c25]] W fun e w' => e = .returned (.tuple #[]) ∧ Sp SA W w') := fun W hW =>
                spoil_calls W SA p25 s4.length c25 bd4.1 cap25 (fun h0 => by
                  obtain ⟨g, e, hF⟩ := H25.out.1.files bd4.2 (S := SA) (fun k h1 h2 => (hSA k).2 (.inl ⟨h1, h2⟩)) h0
                  exact ⟨g, e, (hF.sp (Sp.of_frm (ff f2529))).sp hW⟩) (fun k hk => by have := hSAlt k hk; have := hW.frm.size; omega)
              have KSS : Hid (∀ W, Sp SA w31 W → Calls Tryz.prog 46 #[.agg #[.slice p20 s2.length c20]] W fun e w' => e = .returned (.tuple #[]) ∧ Sp SA W w') := fun W hW =>
                spoil_calls W SA p20 s2.length c20 (by have := bd2.1; omega) cap20 (fun h0 => by
                  obtain ⟨g, e, hF⟩ := H20.out.1.files bd2.2 (S := SA) (fun k h1 h2 => (hSA k).2 (.inr ⟨by omega, h2⟩)) h0
                  exact ⟨g, e, (hF.sp (Sp.of_frm (ff f2029))).sp hW⟩) (fun k hk => by have := hSAlt k hk; have := hW.frm.size; omega)
              have row31 : RowS 5 Is8 w31 SA L (.slice pN L cN) := (RowS.of_own HZ.out.2.2 (P := Is8) (fun u hu => by obtain ⟨x, _, rfl⟩ := List.mem_map.1 hu; exact ⟨x, rfl⟩) (S := SA) (fun k hk => (hSA k).2 (.inr ⟨(own_low HZ.out.2.2 hk).1, by have := (own_low HZ.out.2.2 hk).2; omega⟩))).sp8 (Sp.of_frm (ff f1929))
              have HSA := Lib.hid hSA
              have H31 := Lib.hid (And.intro g31 (And.intro fw31 (And.intro row31 (And.intro bx22 (And.intro bx25 g31s)))))
              have KS : Hid (∀ W, Frm (fun _ => False) w31 W → Calls Tryz.prog 29 #[.pointer (some ⟨b, 0, none⟩)] W fun e w' => ∃ A c, e = .returned (.agg #[.slice A s2.length c]) ∧ ImgRd w' (.agg #[.slice A s2.length c]) s2 ∧ Frm (fun _ => False) w31 w') := fun W hW => by
                have := (hL31.self.on hW).seenC
                rw [← hs2] at this
                exact this.mono (by rintro e w' ⟨A, c, e1, e2, e3⟩; exact ⟨A, c, e1, e2.rd, hW.trans e3 (fun _ _ h => h)⟩)
              have KF : Hid (∀ W, Frm (fun _ => False) w31 W → Calls Tryz.prog 31 #[.pointer (some ⟨b, 0, none⟩)] W fun e w' => ∃ A c, e = .returned (.agg #[.slice A s3.length c]) ∧ ImgRd w' (.agg #[.slice A s3.length c]) s3 ∧ Frm (fun _ => False) w31 w') := fun W hW => by
                have := (hL31.self.on hW).safeC
                rw [← hs3] at this
                exact this.mono (by rintro e w' ⟨A, c, e1, e2, e3⟩; exact ⟨A, c, e1, e2.rd, hW.trans e3 (fun _ _ h => h)⟩)
              have zz : Hid (∀ W, Frm (fun _ => False) w31 W → W.cell? ⟨w20.heap.size, 0, none⟩ = some (.slice p20 s2.length c20) ∧ W.cell? ⟨w22.heap.size, 0, none⟩ = some (.slice p22 s3.length c22)) := fun W hW => ⟨cell_of ((hW.block _ (Da.blk_lt bx22) id).trans bx22) rfl, cell_of ((hW.block _ (Da.blk_lt bx23) id).trans bx23) rfl⟩
              have S0 := zz.out w31 (Frm.refl _ _)
              have D0 := zz.out w31.drew (Frm.refl _ _).drew
              have HI20 := Lib.hid rd20
              have HI22 := Lib.hid rd22
              have HOK2 := Lib.hid ok2
              have HOK3 := Lib.hid ok3
              have HOK4 := Lib.hid ok4
              clear g31 g31s g31o hG n1 n2 n3 n4 n5 n6 n7 n8 n9 na nb nc nd f2529 f2029 f1929 f2229 ff hL31 rd22 rd28 fo31 fw31 bx22 bx23 bx25 bx28 rd20 hs2 hs3 hs4 hNA hsl ok2 ok3 ok4 bd2 bd4 hSA hSAlt cap20 cap25 row31 hlt4
              go_upto_region 50 with (fail)
              go_region_held3 (fun w' => w'.cell? ⟨w20.heap.size, 0, none⟩ = some (.slice p20 s2.length c20) ∧ w'.cell? ⟨w22.heap.size, 0, none⟩ = some (.slice p22 s3.length c22))
                (first | exact S0 | exact D0 | exact zz.out _ HX1.out.1 | exact zz.out _ HX2.out | exact zz.out _ HX3.out.1 | exact zz.out _ HX4.out | go_keep)
                (first
                  | (go_at_call 29; (with_reducible refine (KS.out _ (by first | exact Frm.refl _ _ | exact (Frm.refl _ _).drew)).mono ?_); rintro e u1 ⟨A1', c1', rfl, hr1, f1⟩; have HX1 := Lib.hid (And.intro f1 hr1); clear hr1 f1)
                  | (go_at_call 28; (with_reducible refine (KI.out _ _ _ s2 HX1.out.2 (HI20.out.frm HX1.out.1) HOK2.out).mono ?_); rintro e u2 ⟨rfl, f2⟩; have HX2 : Hid (Frm (fun _ => False) w31 u2) := Lib.hid (HX1.out.1.trans f2 (fun _ _ h => h)); clear f2)
                  | (go_at_call 31; (with_reducible refine (KF.out _ HX2.out).mono ?_); rintro e u3 ⟨A3', c3', rfl, hr3, f3⟩; have HX3 := Lib.hid (And.intro f3 hr3); clear hr3 f3)
                  | (go_at_call 28; (with_reducible refine (KI.out _ _ _ s3 HX3.out.2 (HI22.out.frm HX3.out.1) HOK3.out).mono ?_); rintro e u4 ⟨rfl, f4⟩; have HX4 : Hid (Frm (fun _ => False) w31 u4) := Lib.hid (HX3.out.1.trans f4 (fun _ _ h => h)); clear f4))
              as_aux_lemma =>
              have y24 : u4.cell? ⟨w25.heap.size, 0, none⟩ = some (.slice p25 s4.length c25) := cell_of ((HX4.out.block _ (Da.blk_lt H31.out.2.2.2.2.1) id).trans H31.out.2.2.2.2.1) rfl
              clear S0 D0
              go_upto_region 53 with (first
                | (go_at_call 46; refine (KSL.out _ (Sp.of_frm HX4.out)).mono ?_; rintro e w33 ⟨rfl, s33⟩; have H33 : Hid (Sp SA w31 w33) := Lib.hid ((Sp.of_frm HX4.out).trans s33); clear s33))
              have y22 : w33.cell? ⟨w20.heap.size, 0, none⟩ = some (.slice p20 s2.length c20) := cell_of ((H33.out.frm.block _ (Da.blk_lt H31.out.2.2.2.1) (fun h => by have h1 := (HSA.out _).1 h; obtain ⟨n1, n2, n3, n4, n5, n6, n7, n8, n9, na, nb, nc, nd⟩ := HN.out; omega)).trans H31.out.2.2.2.1) rfl
              go_upto_region 54 with (first
                | (go_at_call 46; refine (KSS.out _ H33.out).mono ?_; rintro e w34 ⟨rfl, s34⟩; have H34 : Hid (Sp SA w31 w34) := Lib.hid (H33.out.trans s34); clear s34))
              clear y24 y22
              have hLb : L ≤ 2097152 := by rw [HLL.out, List.length_append]; have := H18.out.2.2.2.2; omega
              go_wp2
              go_loopw [28] (fun v wr => ∃ j, v = .int .i64 (j : Nat) ∧ j ≤ L ∧ Sp SA w31 wr) (fun v _ => L - (intOf v).toNat)
              case atStart => exact ⟨0, rfl, Nat.zero_le _, H34.out⟩
              case round =>
              obtain ⟨j5, rfl, hj5, hs5⟩ := hrel
              by_cases hlt5 : j5 < L
              · have r1 := H31.out.2.2.1.sp8 hs5
                rcases r1 with ⟨_, _, e0⟩ | ⟨g1, o1, c1', ds, e, r2, r3, r4, r5, r6, r7⟩
                · omega
                · obtain ⟨rfl, rfl⟩ : pN = some ⟨g1, o1, none⟩ ∧ cN = c1' := by simpa using e
                  obtain ⟨u, hu, x, rfl⟩ := r7 j5 hlt5
                  have m1 : wr.cell? ⟨g1, o1 + j5, none⟩ = some (.int .u8 x) := cell_of r3 hu
                  have m2 : wr.frozen? ⟨g1, o1 + j5, none⟩ = false := frozen_of r3
                  have hkc : j5 < cN := by omega
                  have hset : ∀ y : Int, Sp SA wr (wr.setCell ⟨g1, o1 + j5, none⟩ (.int .u8 y)) := fun y => Sp.set r3 r2 (fun _ => ⟨y, rfl⟩) (fun e => absurd e (by decide))
                  have HX := Lib.hid (And.intro hs5 hset)
                  clear e r2 r3 r4 r5 r6 r7 hu hset hs5
                  go_wp2
                  exact ⟨⟨j5 + 1, by go_num, by omega, HX.out.1.trans (HX.out.2 _)⟩, by simp [intOf]; omega⟩
              · obtain rfl : j5 = L := by omega
                as_aux_lemma =>
                obtain ⟨w35, hw35⟩ : ∃ w35, w35 = wr := ⟨_, rfl⟩
                subst hw35
                have g35 : Frm G w29 w35 := H31.out.1.trans hs5.frm (fun k hk h => (HG.out k).2 (.inr ((HSA.out k).1 h)))
                obtain ⟨hL35, rd22, rd28, fo35, fw35, bx22, bx23, bx25, bx28⟩ := HU.out _ g35
                have KRD := hL35.self.readC ⟨#[107, 101, 112, 116]⟩
                rw [HD15.out.2.2.2.2.1.1, errV_zero, HD15.out.2.2.2.2.1.2] at KRD
                have KRD3 : Hid (Calls Tryz.prog 45 #[.pointer (some ⟨b, 0, none⟩), .string ⟨#[107, 101, 112, 116]⟩] w35 fun e w' => ∃ p c p2 n2 c2, e = .returned (.tuple #[.slice p (old ++ dx).length c, .slice p2 n2 c2, .nilIface]) ∧ w'.ownsRow w35.heap.size 5 1 (.slice p (old ++ dx).length c) (old ++ dx).length (u8s (old ++ dx)) ∧ Frm (fun _ => False) w35 w') := Lib.hid (KRD.mono (by
                  rintro e w' ⟨dv, bv, rfl, h1, h2, h3⟩
                  obtain ⟨p1, c1, rfl⟩ := own_form h1
                  obtain ⟨p2, c2, rfl⟩ := own_form h2
                  exact ⟨p1, c1, p2, _, c2, rfl, h1, h3⟩))
                rw [← HLL.out] at KRD3
                have HG35 := Lib.hid g35
                have HI22b := Lib.hid rd22
                have HI28b := Lib.hid rd28
                have HFO := Lib.hid (And.intro fo35 (And.intro fw35 (And.intro bx23 bx28)))
                clear g35 hL35 rd22 rd28 fo35 fw35 bx22 bx23 bx25 bx28 KRD hs5
                go_upto_region 59 with (first
                  | (go_at_call 45; refine KRD3.out.mono ?_; rintro e w36 ⟨pT, cT, pb3, nb3, cb3, rfl, hr36, f36⟩; have H36 := Lib.hid (And.intro hr36 f36); clear hr36 f36))
                have hg36 : ∀ W, Frm (fun _ => False) w36 W → Frm G w29 W := fun W hW => (HG35.out.trans H36.out.2 (fun _ _ h => h.elim)).trans hW (fun _ _ h => h.elim)
                obtain ⟨hs2, hs3, hs4, hNA, hsl⟩ := HS.out
                have KS : Hid (∀ W, Frm (fun _ => False) w36 W → Calls Tryz.prog 29 #[.pointer (some ⟨b, 0, none⟩)] W fun e w' => ∃ A c, e = .returned (.agg #[.slice A s2.length c]) ∧ ImgRd w' (.agg #[.slice A s2.length c]) s2 ∧ Frm (fun _ => False) w36 w') := fun W hW => by
                  have := (HU.out _ (hg36 W hW)).1.self.seenC
                  rw [← hs2] at this
                  exact this.mono (by rintro e w' ⟨A, c, e1, e2, e3⟩; exact ⟨A, c, e1, e2.rd, hW.trans e3 (fun _ _ h => h)⟩)
                have KF : Hid (∀ W, Frm (fun _ => False) w36 W → Calls Tryz.prog 31 #[.pointer (some ⟨b, 0, none⟩)] W fun e w' => ∃ A c, e = .returned (.agg #[.slice A s3.length c]) ∧ ImgRd w' (.agg #[.slice A s3.length c]) s3 ∧ Frm (fun _ => False) w36 w') := fun W hW => by
                  have := (HU.out _ (hg36 W hW)).1.self.safeC
                  rw [← hs3] at this
                  exact this.mono (by rintro e w' ⟨A, c, e1, e2, e3⟩; exact ⟨A, c, e1, e2.rd, hW.trans e3 (fun _ _ h => h)⟩)
                have KC : Hid (∀ W p c base, Frm (fun _ => False) w36 W → W.ownsRow base 3 1 (.slice p NA c) NA (i64s (List.replicate NA 1)) → Calls Tryz.prog 17 #[.pointer (some ⟨b, 0, none⟩), .agg #[.slice p NA c, .int .i64 9]] W fun e w' => ∃ A c, e = .returned (.agg #[.slice A s4.length c]) ∧ ImgRd w' (.agg #[.slice A s4.length c]) s4 ∧ Frm (fun _ => False) w36 w') := fun W p c base hW hr => by
                  have := (HU.out _ (hg36 W hW)).1.self.crashC (List.replicate NA 1) 9 p c (own_ints hr) (by rw [List.length_replicate]; omega)
                  rw [List.length_replicate, ← hs4] at this
                  exact this.mono (by rintro e w' ⟨A, c, e1, e2, e3⟩; exact ⟨A, c, e1, e2.rd, hW.trans e3 (fun _ _ h => h)⟩)
                have KA : Hid (∀ W v, Frm (fun _ => False) w36 W → ImgRd W v s2 → Calls Tryz.prog 39 #[v, .int .i64 1] W fun e w' => ∃ p c, e = .returned (.slice p NA c) ∧ w'.ownsRow W.heap.size 3 1 (.slice p NA c) NA (i64s (List.replicate NA 1)) ∧ Frm (fun _ => False) w36 w') := fun W v hW hv => by
                  have := all_calls W v s2 1 hv (fun p hp => by have := hsl.2 p (by rw [← hs2]; exact hp); omega) (by rw [← hNA]; exact hNAb)
                  rw [← hNA] at this
                  exact this.mono (by rintro e w' ⟨p, c, e1, _, e2, e3⟩; exact ⟨p, c, e1, e2, hW.trans e3 (fun _ _ h => h)⟩)
                have zz : Hid (∀ W, Frm (fun _ => False) w36 W → W.cell? ⟨w22.heap.size, 0, none⟩ = some (.slice p22 s3.length c22) ∧ W.cell? ⟨w28.heap.size, 0, none⟩ = some (.slice p28 s4.length c28) ∧ (convert 22 9 (.slice pT j5 cT)).run Tryz.prog W = .ok (.string (sO ++ sX)) W ∧ (convert 22 9 (.slice pO old.length cO)).run Tryz.prog W = .ok (.string sO) W ∧ (convert 22 9 (.slice Ad dx.length cd)).run Tryz.prog W = .ok (.string sX) W) := fun W hW => by
                  have hh := HU.out _ (hg36 W hW)
                  refine ⟨cell_of hh.2.2.2.2.2.2.1 rfl, cell_of hh.2.2.2.2.2.2.2.2 rfl, zc.out W pT cT hh.2.2.2.1 hh.2.2.2.2.1 (own_frm (Go.Proofs.YtglhedahannjiaaGreatDoorW.PrintWords.own_weaken H36.out.1 (Nat.zero_le _)) hW)⟩
                have S0 := zz.out w36 (Frm.refl _ _)
                have D0 := zz.out w36.drew (Frm.refl _ _).drew
                have HIb : Hid (∀ W, Frm (fun _ => False) w36 W → ImgRd W (.agg #[.slice p22 s3.length c22]) s3 ∧ ImgRd W (.agg #[.slice p28 s4.length c28]) s4) := fun W hW => ⟨(HU.out _ (hg36 W hW)).2.1, (HU.out _ (hg36 W hW)).2.2.1⟩
                have HFW := Lib.hid (HU.out _ (hg36 w36 (Frm.refl _ _))).2.2.2.2.1
                obtain ⟨z1, z2, z4⟩ := HZZ.out
                clear hs2 hs3 hs4 hNA hsl hg36
                go_region_held3 (fun w' => w'.cell? ⟨w22.heap.size, 0, none⟩ = some (.slice p22 s3.length c22) ∧ w'.cell? ⟨w28.heap.size, 0, none⟩ = some (.slice p28 s4.length c28) ∧ (convert 22 9 (.slice pT j5 cT)).run Tryz.prog w' = .ok (.string (sO ++ sX)) w' ∧ (convert 22 9 (.slice pO old.length cO)).run Tryz.prog w' = .ok (.string sO) w' ∧ (convert 22 9 (.slice Ad dx.length cd)).run Tryz.prog w' = .ok (.string sX) w')
                  (first | exact S0 | exact D0 | exact zz.out _ HX1.out.1 | exact zz.out _ HX2.out | exact zz.out _ HX3.out.1 | exact zz.out _ HX4.out.1 | exact zz.out _ HX5.out.1 | exact zz.out _ HX6.out | go_keep)
                  (first
                    | (go_at_call 31; (with_reducible refine (KF.out _ (by first | exact Frm.refl _ _ | exact (Frm.refl _ _).drew)).mono ?_); rintro e u1 ⟨A1', c1', rfl, hr1, f1⟩; have HX1 := Lib.hid (And.intro f1 hr1); clear hr1 f1)
                    | (go_at_call 28; (with_reducible refine (KI.out _ _ _ s3 HX1.out.2 (HIb.out _ HX1.out.1).1 HOK3.out).mono ?_); rintro e u2 ⟨rfl, f2⟩; have HX2 : Hid (Frm (fun _ => False) w36 u2) := Lib.hid (HX1.out.1.trans f2 (fun _ _ h => h)); clear f2)
                    | (go_at_call 29; (with_reducible refine (KS.out _ HX2.out).mono ?_); rintro e u3 ⟨A3', c3', rfl, hr3, f3⟩; have HX3 := Lib.hid (And.intro f3 hr3); clear hr3 f3)
                    | (go_at_call 39; (with_reducible refine (KA.out _ _ HX3.out.1 HX3.out.2).mono ?_); rintro e u4 ⟨A4', c4', rfl, hr4, f4⟩; have HX4 := Lib.hid (And.intro f4 hr4); clear hr4 f4)
                    | (go_at_call 17; (with_reducible refine (KC.out _ _ _ _ HX4.out.1 HX4.out.2).mono ?_); rintro e u5 ⟨A5', c5', rfl, hr5, f5⟩; have HX5 := Lib.hid (And.intro f5 hr5); clear hr5 f5)
                    | (go_at_call 28; (with_reducible refine (KI.out _ _ _ s4 HX5.out.2 (HIb.out _ HX5.out.1).2 HOK4.out).mono ?_); rintro e u6 ⟨rfl, f6⟩; have HX6 : Hid (Frm (fun _ => False) w36 u6) := Lib.hid (HX5.out.1.trans f6 (fun _ _ h => h)); clear f6))
                all_goals
                  go_wp2
                  go_ret
                  exact ⟨rfl, HFW.out.trans HX6.out (fun _ _ h => h)⟩
end Go.Proofs.YtglhedahannjiaaGreatDoor.Dw
