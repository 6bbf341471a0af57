/- A part of the proof of diskSectors_holds: Ev2. No condition. -/
import Derived.Test.YtglhedahannjiaaGreatDoorC18

/- Walks: DiskSectors. (printed by wip/tools/gen_sectors.py) -/
namespace Go.Proofs.YtglhedahannjiaaGreatDoor.Dw
open Go.RowKit Go.ChangeMaps Go.Proofs.YtglhedahannjiaaGreatDoor.Mp Go.Proofs.YtglhedahannjiaaGreatDoor.Dm Go.Proofs.YtglhedahannjiaaGreatDoor.Da
open Go.Proofs.YtglhedahannjiaaGreatDoorW.PrintWords (Kd ReadsInt string_of_reads)
set_option linter.unusedVariables false
set_option linter.unusedSimpArgs false
set_option linter.unusedSectionVars false
set_option maxHeartbeats 20000000 in
set_option maxRecDepth 100000 in
theorem law_sectors_some {w : World} {eb : Nat → Addr} {L : List Err} (he : ErrsAt w.heap.size w eb L) (F S fs : List Int) {p1 p2 p3 : Option Addr} {c1 c2 c3 : Nat}
    (h1 : ReadsInt w .u8 p1 F.length F) (h2 : ReadsInt w .u8 p2 S.length S) (h3 : ReadsInt w .i64 p3 fs.length fs) (hc1 : F.length ≤ c1) (hc2 : S.length ≤ c2)
    (hF : ∀ x, x ∈ F → 0 ≤ x ∧ x < 256) (hS : ∀ x, x ∈ S → 0 ≤ x ∧ x < 256) (hlF : F.length ≤ 9223372036854775807) (hlS : S.length ≤ 9223372036854775807) (hlf : fs.length ≤ 4611686018427387904) (hsm : F.length ≤ 1048576 ∧ S.length ≤ 1048576) (hS0 : 0 < S.length) :
    Calls Tryz.prog 3 #[.slice p1 F.length c1, .slice p2 S.length c2, .slice p3 fs.length c3] w fun e w' => e = .returned (.bool true) ∧ Frm (fun _ => False) w w' := by
  have KEYL := Lib.hid (lives_calls he)
  have HE := Lib.hid he
  have H1 := Lib.hid h1
  have H2 := Lib.hid h2
  have H3 := Lib.hid h3
  have HFS := Lib.hid (And.intro hF hS)
  clear he h1 h2 h3 hF hS
  obtain ⟨hs1, hs2⟩ := hsm
  have d1 : ((F.length : Int) > 1048576) = False := by simp; omega
  have d2 : ((S.length : Int) > 1048576) = False := by simp; omega
  obtain ⟨n1, hn1⟩ : ∃ n, n = F.length := ⟨_, rfl⟩
  obtain ⟨n2, hn2⟩ : ∃ n, n = S.length := ⟨_, rfl⟩
  obtain ⟨n3, hn3⟩ : ∃ n, n = fs.length := ⟨_, rfl⟩
  rw [← hn1] at hc1 hlF hs1 d1 ⊢
  rw [← hn2] at hc2 hlS hs2 d2 ⊢
  rw [← hn3] at hlf ⊢
  have N1 := Lib.hid hn1
  have N2 := Lib.hid hn2
  have N3 := Lib.hid hn3
  clear hn1 hn2 hn3
  obtain ⟨sF, hsF⟩ : ∃ x, x = strOfNums F := ⟨_, rfl⟩
  obtain ⟨sS, hsS⟩ : ∃ x, x = strOfNums S := ⟨_, rfl⟩
  have z1 : sF.size = n1 := by rw [hsF, strOfNums_size, N1.out]
  have z2 : sS.size = n2 := by rw [hsS, strOfNums_size, N2.out]
  have HsF := Lib.hid hsF
  have HsS := Lib.hid hsS
  clear hsF hsS
  have hcN : secCount F S = if n2 = 0 then 0 else (n1 + n2 - 1) / 512 - n1 / 512 + 1 := by
    unfold secCount
    rw [← N1.out, ← N2.out]
    by_cases hS0 : S = []
    · have : n2 = 0 := by rw [N2.out, hS0]; rfl
      rw [if_pos hS0, if_pos this]
    · have : n2 ≠ 0 := by rw [N2.out]; exact fun h => hS0 (List.eq_nil_of_length_eq_zero h)
      rw [if_neg hS0, if_neg this]
  obtain ⟨cnt, hcnt⟩ : ∃ c, c = secCount F S := ⟨_, rfl⟩
  rw [← hcnt] at hcN
  have HC := Lib.hid hcnt
  clear hcnt
  have e0 : n2 = 0 → (cnt : Int) = 0 := fun h => by rw [hcN, if_pos h]; rfl
  have e1 : ¬ n2 = 0 → (cnt : Int) = ((n1 : Int) + n2 - 1) / 512 - (n1 : Int) / 512 + 1 := fun h => by rw [hcN, if_neg h]; omega
  have E0 := Lib.hid e0
  have E1 := Lib.hid e1
  have HCN := Lib.hid hcN
  clear e0 e1 hcN
  rw [← N2.out] at hS0
  have h20 : Hid (¬ n2 = 0) := Lib.hid (by omega)
  have d3 : 0 < n2 := by omega
  clear hS0
  all_goals
   go_enter Tryz.func3, Tryz.ntmps3
   go_wp2_with (first
     | (go_at_call 10; (with_reducible refine KEYL.out.mono ?_); rintro e w1 ⟨rfl, f1⟩; have F1 := Lib.hid f1; have LV1 : Hid (Step w1.heap.size w1 (wBorn w1) (w1.heap.size + 2) eb L 0 0 Disk.new) := Lib.hid ⟨_, Live.born (ErrsAt.up (HE.out.frm f1 (fun _ h => h.elim)) f1.size), Frm.of_below (born_below w1) _⟩; have KEYN := Lib.hid (new_calls w1); unfold dptr at KEYN; clear f1 KEYL HE)
     | (go_at_call 11; (with_reducible refine KEYN.out.mono ?_); rintro e wb ⟨rfl, rfl⟩; have K1 := Lib.hid (sec1_calls LV1.out); clear KEYN)
     | (go_at_call 12; (with_reducible refine K1.out.mono ?_); rintro e w2 ⟨rfl, s2⟩; have LV2 := Lib.hid s2; clear s2 K1; have K2 := Lib.hid (sec2_calls LV2.out (F := F) (reads_old H1.out (B := w1.heap.size) (F1.out.mono (fun _ _ h => h.elim)) F1.out.size) (Nat.le_refl _) (by rw [← N1.out]; exact hc1) (by rw [← N1.out]; exact hs1) HFS.out.1); rw [← N1.out] at K2)
     | (go_at_call 13; (with_reducible refine K2.out.mono ?_); rintro e w3 ⟨rfl, s3⟩; have LV3 := Lib.hid s3; clear s3 K2; have K3 := Lib.hid (sec3_calls LV3.out))
     | (go_at_call 14; (with_reducible refine K3.out.mono ?_); rintro e w4 ⟨rfl, s4⟩; have LV4 := Lib.hid s4; clear s4 K3; have K4 := Lib.hid (sec4_calls LV4.out))
     | (go_at_call 15; (with_reducible refine K4.out.mono ?_); rintro e w5 ⟨rfl, s5⟩; have LV5 := Lib.hid s5; clear s5 K4; have K5 := Lib.hid (sec5_calls LV5.out (S := S) (reads_old H2.out (B := w1.heap.size) (F1.out.mono (fun _ _ h => h.elim)) F1.out.size) (Nat.le_refl _) (by rw [← N2.out]; exact hc2) (by rw [← N2.out]; exact hs2) hs1 HFS.out.2); rw [← N2.out] at K5)
     | (go_at_call 13; (with_reducible refine K5.out.mono ?_); rintro e w6 ⟨rfl, s6⟩; have LV6 := Lib.hid s6; have R1 := s6.reads (reads_old H1.out (B := w1.heap.size) (F1.out.mono (fun _ _ h => h.elim)) F1.out.size) (Nat.le_refl _); have R2 := s6.reads (reads_old H2.out (B := w1.heap.size) (F1.out.mono (fun _ _ h => h.elim)) F1.out.size) (Nat.le_refl _); have cv1 := string_of_reads (c := c1) Tryz.underlying22 Tryz.underlying5 Tryz.underlying9 R1; have cv2 := string_of_reads (c := c2) Tryz.underlying22 Tryz.underlying5 Tryz.underlying9 R2; rw [← N1.out, ← HsF.out] at cv1; rw [← N2.out, ← HsS.out] at cv2; have K60 := sec6_calls s6; rw [← HC.out] at K60; (first | rw [E0.out h20.out] at K60 | rw [E1.out h20.out] at K60); have K6 := Lib.hid K60; clear R1 R2 s6 K5 LV1 LV2 LV3 LV4 LV5 K60)
     | (go_at_call 16; (with_reducible refine K6.out.mono ?_); rintro e w7 ⟨rfl, s7⟩; have LV7 := Lib.hid s7; have K70 := sec7_calls s7 (c := c3) (reads_old H3.out (B := w1.heap.size) (F1.out.mono (fun _ _ h => h.elim)) F1.out.size) (Nat.le_refl _) (by rw [← N3.out]; exact hlf); rw [← N3.out] at K70; have K7 := Lib.hid K70; clear s7 K6 K70)
     | (go_at_call 17; (with_reducible refine K7.out.mono ?_); rintro e w8 ⟨iA, ic, rfl, hR, hf8⟩; have HR := Lib.hid hR; have F8 := Lib.hid hf8; clear hR hf8 K7 LV7))
   rw [← E1.out h20.out]
   obtain ⟨g, c, dv, bv, hv, hc, k0, k1, k2, hd, hb⟩ := img_file HR.out 0 _ rfl
   simp only [Value.slice.injEq, List.length_singleton] at hv
   obtain ⟨rfl, -, rfl⟩ := hv
   obtain ⟨p5, c5, rfl⟩ := own_form hd
   obtain ⟨p6, c6, rfl⟩ := own_form hb
   have F9 : Frm (fun k => w1.heap.size ≤ k) w1 (w8.alloc (.cells #[.slice (some ⟨g, 0, none⟩) 1 ic] 36)) := F8.out.alloc _
   have bt : (w8.alloc (.cells #[.slice (some ⟨g, 0, none⟩) 1 ic] 36)).cell? ⟨w8.heap.size, 0, none⟩ = some (.slice (some ⟨g, 0, none⟩) 1 ic) := cell_of blk_alloc rfl
   have k19 := cell_alloc (o := .cells #[.slice (some ⟨g, 0, none⟩) 1 ic] 36) k1
   have k29 := cell_alloc (o := .cells #[.slice (some ⟨g, 0, none⟩) 1 ic] 36) k2
   have hd9 := Lib.hid (own_frm hd ((Frm.refl (fun _ => False) w8).alloc (.cells #[.slice (some ⟨g, 0, none⟩) 1 ic] 36)))
   have hb9 := Lib.hid (own_frm hb ((Frm.refl (fun _ => False) w8).alloc (.cells #[.slice (some ⟨g, 0, none⟩) 1 ic] 36)))
   have R39 := Lib.hid (reads_old (reads_old H3.out (B := w1.heap.size) (F1.out.mono (fun _ _ h => h.elim)) F1.out.size) F9 (Nat.le_refl _))
   have hfin : Hid (Frm (fun _ => False) w (w8.alloc (.cells #[.slice (some ⟨g, 0, none⟩) 1 ic] 36))) := Lib.hid ((frm_up F1.out F9).mono fun i hi h => by have := F1.out.size; omega)
   clear HR F8 LV6 cv1 cv2 k0 k1 k2 hd hb F9 F1 hc
   generalize (w8.alloc (.cells #[.slice (some ⟨g, 0, none⟩) 1 ic] 36)) = W at *
   generalize w8.heap.size = qi at *
   obtain ⟨Ld, hLd⟩ : ∃ x, x = (secData F S fs).length := ⟨_, rfl⟩
   obtain ⟨nb, hnb⟩ : ∃ x, x = (secBads F S fs).length := ⟨_, rfl⟩
   simp only [] at k19 k29 hd9 hb9
   rw [← hLd] at k19 hd9
   rw [← hnb] at k29 hb9
   have HLd : Hid (Ld = secSize F S fs cnt) := Lib.hid (by rw [hLd, secData_length, HC.out])
   have HNb : Hid (nb = secCnt F S fs (sectors Ld)) := Lib.hid (by rw [hnb, secBads_length, hLd, secData_length])
   have HB : Hid (∀ i, i * 512 < Ld → secBad F S fs i = true → secCnt F S fs i < nb ∧ ∃ gb, p6 = some ⟨gb, 0, none⟩ ∧ nb ≤ c6 ∧ W.cell? ⟨gb, secCnt F S fs i, none⟩ = some (.int .i64 (i : Nat))) := Lib.hid fun i hi hbad => by
    have e := secBads_at F S fs (i := i) (by rw [← HC.out, ← HLd.out]; exact hi) hbad
    have hlt : secCnt F S fs i < nb := by rw [hnb]; exact (List.getElem?_eq_some_iff.1 e).1
    exact ⟨hlt, own_at hb9.out (by unfold i64s; rw [List.getElem?_map, e]; rfl) (by omega)⟩
   have HD : Hid (∀ k, k < Ld → ∃ gd, p5 = some ⟨gd, 0, none⟩ ∧ Ld ≤ c5 ∧ W.cell? ⟨gd, k, none⟩ = some (.int .u8 (if (secFate F S fs (k / 512) = 0 ∧ k < n1) ∨ secFate F S fs (k / 512) = 1 then (F ++ S).getD k 0 else 0))) := Lib.hid fun k hk => by
    have e := secData_at F S fs (i := k) (by rw [← HC.out, ← HLd.out]; exact hk)
    rw [← N1.out] at e
    exact own_at hd9.out (by unfold u8s; rw [List.getElem?_map, e]; rfl) (by omega)
   clear hLd hnb
   have HFR : Hid (∀ k, secSize F S fs (k + 1) = if fs.getD k 0 = 0 then secSize F S fs k else max (min ((n1 / 512 + k + 1) * 512) (n1 + n2)) n1) := Lib.hid fun k => by rw [N1.out, N2.out]; rfl
   have efr : (n1 : Int) / 512 = ((n1 / 512 : Nat) : Int) := by omega
   rw [efr]
   have hfrb : n1 / 512 ≤ 2048 := by omega
   have hcb : cnt ≤ 4098 := by have := HCN.out; split at this <;> omega
   obtain ⟨fr, hfr⟩ : ∃ x, x = n1 / 512 := ⟨_, rfl⟩
   rw [← hfr] at hfrb HFR ⊢
   have HF := Lib.hid hfr
   clear efr hfr
   have hst : Hid (∀ k, secSize F S fs k ≤ n1 + n2) := Lib.hid fun k => by rw [N1.out, N2.out]; exact secSize_top F S fs k
   have hLb : Ld ≤ n1 + n2 := by rw [HLd.out]; exact hst.out _
   go_loopw [14, 15] (fun a v wr => ∃ q, v = .int .i64 (q : Nat) ∧ a = .int .i64 ((secSize F S fs q : Nat) : Int) ∧ q ≤ cnt ∧ wr = W) (fun _ v _ => cnt - (intOf v).toNat)
   case atStart => exact ⟨0, rfl, by rw [N1.out]; rfl, Nat.zero_le _, rfl⟩
   case round =>
    obtain ⟨q, rfl, rfl, hq, rfl⟩ := hrel
    have hsq := HFR.out q
    have hsl := hst.out q
    by_cases hlt : q < cnt
    · first
       | (exfalso; have := E0.out h20.out; omega)
       | (by_cases hqf : q < n3
          · obtain ⟨ad, rfl, hac⟩ := R39.out.2.2 (by have := N3.out; omega)
            have hac' := hac q (by rw [← N3.out]; exact hqf)
            have HAC := Lib.hid hac
            clear hac
            obtain ⟨x, hx⟩ : ∃ x, x = fs.getD q 0 := ⟨_, rfl⟩
            rw [← hx] at hac' hsq
            clear hx
            by_cases hz : x = 0
            · rw [if_pos hz] at hsq
              have hz' : (x != 0) = false := by simp [hz]
              clear hz
              go_wp2
              refine ⟨⟨q + 1, by go_num, by rw [hsq], by omega, by first | rfl | trivial⟩, by simp [intOf]; omega⟩
            · rw [if_neg hz] at hsq
              go_wp2
              all_goals
                refine ⟨⟨q + 1, by go_num, congrArg (Value.int .i64) (by rw [hsq]; omega), by omega, by first | rfl | trivial⟩, by simp [intOf]; omega⟩
          · have hz : fs.getD q 0 = 0 := by rw [List.getD_eq_getElem?_getD, List.getElem?_eq_none (by rw [← N3.out]; omega)]; rfl
            rw [if_pos hz] at hsq
            clear hz
            go_wp2
            refine ⟨⟨q + 1, by go_num, by rw [hsq], by omega, by first | rfl | trivial⟩, by simp [intOf]; omega⟩)
    · obtain rfl : cnt = q := by omega
      rw [← HLd.out]
      clear hsq hsl
      go_wp2
      clear hlt hq
      obtain ⟨wa, rfl⟩ : ∃ wa, wa = wr := ⟨_, rfl⟩
      obtain ⟨M, hM⟩ : ∃ M, M = sectors Ld := ⟨_, rfl⟩
      have hM1 : Hid (∀ i, i < M ↔ i * 512 < Ld) := Lib.hid fun i => by rw [hM]; exact sectors_lt
      have hMb : M ≤ 4100 := by rw [hM]; unfold sectors; omega
      rw [← hM] at HNb
      clear hM
      have HFa : Hid (∀ i, secFate F S fs i = if fr ≤ i ∧ i - fr < cnt then fs.getD (i - fr) 0 else 0) := Lib.hid fun i => by rw [HF.out, HC.out, N1.out]; rfl
      have HIx : Hid (∀ k, k < n1 + n2 → (Instr.index 9 (.string (sF ++ sS)) (.int .i64 (k : Nat))).run Tryz.prog wa = .ok (.int .u8 ((F ++ S).getD k 0)) wa) := Lib.hid fun k hk => whole_index F S HFS.out.1 HFS.out.2 HsF.out HsS.out k (by rw [← N1.out, ← N2.out]; exact hk) wa
      go_loopw [17, 18] (fun a v wx => ∃ i, v = .int .i64 (i : Nat) ∧ a = .int .i64 ((secCnt F S fs i : Nat) : Int) ∧ i ≤ M ∧ wx = wa) (fun _ v _ => M - (intOf v).toNat)
      case atStart => exact ⟨0, rfl, rfl, Nat.zero_le _, rfl⟩
      case round =>
       obtain ⟨i, rfl, rfl, hi, rfl⟩ := hrel
       obtain ⟨wa, rfl⟩ : ∃ wa, wa = wr := ⟨_, rfl⟩
       have hMi := hM1.out i
       by_cases hlt : i < M
       · have hlI : (i : Int) * 512 < (Ld : Int) := by have := hMi.1 hlt; omega
         have hcs := secCnt_succ F S fs i
         have hib : i ≤ 4100 := by omega
         have hfa := HFa.out i
         have HX0 : Hid (secFate F S fs i = if fr ≤ i ∧ i - fr < cnt ∧ i - fr < n3 then fs.getD (i - fr) 0 else 0) := Lib.hid (by
           rw [hfa]
           by_cases ha : fr ≤ i ∧ i - fr < cnt
           · by_cases hb : i - fr < n3
             · rw [if_pos ha, if_pos ⟨ha.1, ha.2, hb⟩]
             · rw [if_pos ha, if_neg (fun h => hb h.2.2), List.getD_eq_getElem?_getD, List.getElem?_eq_none (by rw [← N3.out]; omega)]; rfl
           · rw [if_neg ha, if_neg (fun h => ha ⟨h.1, h.2.1⟩)])
         clear hfa
         go_upto_region 35 with (fail)
         go_cut [161] from 138 to 230 (fun t wx => t = .bool (decide (fr ≤ i ∧ i - fr < cnt ∧ i - fr < n3)) ∧ wx = wa)
         case first =>
          by_cases hfi : fr ≤ i
          · obtain ⟨d, rfl⟩ : ∃ d, i = fr + d := ⟨i - fr, by omega⟩
            clear hfi
            by_cases hdc : d < cnt
            · first
                | (exfalso; have := E0.out h20.out; omega)
                | (by_cases hdn : d < n3
                   · go_wp2
                     go_meet
                     case rel => exact ⟨congrArg Value.bool (by first | exact (decide_eq_true (by omega)).symm | exact (decide_eq_false (by omega)).symm | exact decide_eq_decide.2 (by omega) | exact decide_eq_decide.2 (by constructor <;> intro _ <;> omega)), rfl⟩
                   · go_wp2
                     go_meet
                     case rel => exact ⟨congrArg Value.bool (by first | exact (decide_eq_true (by omega)).symm | exact (decide_eq_false (by omega)).symm | exact decide_eq_decide.2 (by omega) | exact decide_eq_decide.2 (by constructor <;> intro _ <;> omega)), rfl⟩)
            · go_wp2
              go_meet
              case rel => exact ⟨congrArg Value.bool (by first | exact (decide_eq_true (by omega)).symm | exact (decide_eq_false (by omega)).symm | exact decide_eq_decide.2 (by omega) | exact decide_eq_decide.2 (by constructor <;> intro _ <;> omega)), rfl⟩
          · go_wp2
            go_meet
            case rel => exact ⟨congrArg Value.bool (by first | exact (decide_eq_true (by omega)).symm | exact (decide_eq_false (by omega)).symm | exact decide_eq_decide.2 (by omega) | exact decide_eq_decide.2 (by constructor <;> intro _ <;> omega)), rfl⟩
         case rest =>
          obtain ⟨rfl, rfl⟩ := hcut
          go_upto_if 161 with (fail)
          go_cut [19] from 138 to 230 (fun f wx => f = .int .i64 (secFate F S fs i) ∧ wx = wc)
          case first =>
           by_cases hin : fr ≤ i ∧ i - fr < cnt ∧ i - fr < n3
           · have hxx := HX0.out
             rw [if_pos hin] at hxx
             rw [decide_eq_true hin]
             obtain ⟨d, rfl⟩ : ∃ d, i = fr + d := ⟨i - fr, by omega⟩
             rw [show fr + d - fr = d from by omega] at hxx
             obtain ⟨ad, rfl, hac⟩ := R39.out.2.2 (by have := N3.out; omega)
             have hac' := hac d (by rw [← N3.out]; omega)
             have hdn : d < n3 := by omega
             clear hac hin
             rw [← hxx] at hac'
             clear hxx
             go_wp2
             go_meet
             case rel => exact ⟨rfl, rfl⟩
           · have hxx := HX0.out
             rw [if_neg hin] at hxx
             rw [decide_eq_false hin]
             have HXX := Lib.hid hxx
             clear hxx
             go_wp2
             go_meet
             case rel => exact ⟨by rw [HXX.out], rfl⟩
          case rest =>
           obtain ⟨rfl, rfl⟩ := hcut
           obtain ⟨wa, rfl⟩ : ∃ wa, wa = wc := ⟨_, rfl⟩
           obtain ⟨x, hx⟩ : ∃ x, x = secFate F S fs i := ⟨_, rfl⟩
           rw [← hx]
           have HX : Hid (secFate F S fs i = x) := Lib.hid hx.symm
           clear hx HX0
           by_cases h0 : x = 0
           · subst h0
             have hbad : secBad F S fs (i) = false := by unfold secBad; rw [HX.out]; simp
             rw [if_neg (by rw [hbad]; simp)] at hcs
             clear hbad
             go_wp2
             go_loopw [20] (fun v wx => ∃ k, v = .int .i64 (k : Nat) ∧ i * 512 ≤ k ∧ k ≤ (i + 1) * 512 ∧ k ≤ Ld ∧ wx = wa) (fun v _ => (i + 1) * 512 - (intOf v).toNat)
             case atStart => exact ⟨i * 512, by go_num, Nat.le_refl _, by omega, by have := hMi.1 hlt; omega, rfl⟩
             case round =>
              obtain ⟨k, rfl, hka, hkb, hkc, rfl⟩ := hrel
              by_cases hk1 : k < (i + 1) * 512
              · have hkI : (k : Int) < ((i : Int) + 1) * 512 := by omega
                by_cases hk2 : k < Ld
                · have hki : k / 512 = i := by omega
                  obtain ⟨gd, rfl, hcd, hcell⟩ := HD.out k hk2
                  rw [hki, HX.out] at hcell
                  have hix := HIx.out k (by omega)
                  generalize (F ++ S).getD k 0 = y at hcell hix
                  by_cases hkn : k < n1
                  · rw [if_pos (.inl ⟨rfl, hkn⟩)] at hcell
                    go_wp2
                    refine ⟨⟨k + 1, by go_num, by omega, by omega, by omega, by first | rfl | trivial⟩, by simp [intOf]; omega⟩
                  · rw [if_neg (by simp; omega)] at hcell
                    go_wp2
                    refine ⟨⟨k + 1, by go_num, by omega, by omega, by omega, by first | rfl | trivial⟩, by simp [intOf]; omega⟩
                · go_wp2
                  refine ⟨⟨i + 1, by go_num, congrArg (Value.int .i64) (by rw [hcs]; omega), by omega, by first | rfl | trivial⟩, by simp [intOf]; omega⟩
              · have hkI : ¬ (k : Int) < ((i : Int) + 1) * 512 := by omega
                go_wp2
                refine ⟨⟨i + 1, by go_num, congrArg (Value.int .i64) (by rw [hcs]; omega), by omega, by first | rfl | trivial⟩, by simp [intOf]; omega⟩
           · by_cases h1 : x = 1
             · subst h1
               clear h0
               have hbad : secBad F S fs (i) = false := by unfold secBad; rw [HX.out]; simp
               rw [if_neg (by rw [hbad]; simp)] at hcs
               clear hbad
               go_wp2
               go_loopw [20] (fun v wx => ∃ k, v = .int .i64 (k : Nat) ∧ i * 512 ≤ k ∧ k ≤ (i + 1) * 512 ∧ k ≤ Ld ∧ wx = wa) (fun v _ => (i + 1) * 512 - (intOf v).toNat)
               case atStart => exact ⟨i * 512, by go_num, Nat.le_refl _, by omega, by have := hMi.1 hlt; omega, rfl⟩
               case round =>
                obtain ⟨k, rfl, hka, hkb, hkc, rfl⟩ := hrel
                by_cases hk1 : k < (i + 1) * 512
                · have hkI : (k : Int) < ((i : Int) + 1) * 512 := by omega
                  by_cases hk2 : k < Ld
                  · have hki : k / 512 = i := by omega
                    obtain ⟨gd, rfl, hcd, hcell⟩ := HD.out k hk2
                    rw [hki, HX.out] at hcell
                    have hix := HIx.out k (by omega)
                    generalize (F ++ S).getD k 0 = y at hcell hix
                    rw [if_pos (.inr rfl)] at hcell
                    go_wp2
                    refine ⟨⟨k + 1, by go_num, by omega, by omega, by omega, by first | rfl | trivial⟩, by simp [intOf]; omega⟩
                  · go_wp2
                    refine ⟨⟨i + 1, by go_num, congrArg (Value.int .i64) (by rw [hcs]; omega), by omega, by first | rfl | trivial⟩, by simp [intOf]; omega⟩
                · have hkI : ¬ (k : Int) < ((i : Int) + 1) * 512 := by omega
                  go_wp2
                  refine ⟨⟨i + 1, by go_num, congrArg (Value.int .i64) (by rw [hcs]; omega), by omega, by first | rfl | trivial⟩, by simp [intOf]; omega⟩
             · have hbad : secBad F S fs (i) = true := by unfold secBad; rw [HX.out]; simp [h0, h1]
               rw [if_pos hbad] at hcs
               obtain ⟨hcn, gb, rfl, hnc, hbc⟩ := HB.out (i) (hMi.1 hlt) hbad
               rw [show (((i : Nat)) : Int) = ((i : Int)) from by omega] at hbc
               have b0 : (x != 0) = true := by simp [h0]
               have b1 : (x != 1) = true := by simp [h1]
               have b2 : (x == 0) = false := by simp [h0]
               have b3 : (x == 1) = false := by simp [h1]
               have hcw := secCnt_le F S fs (i)
               have hcwI : (secCnt F S fs (i) : Int) ≤ 4100 := by omega
               have hcw2 : secCnt F S fs (i) ≤ 4100 := by omega
               have hcnI : (secCnt F S fs (i) : Int) < (nb : Int) := by omega
               clear hbad
               go_wp2
               go_loopw [20] (fun v wx => ∃ k, v = .int .i64 (k : Nat) ∧ i * 512 ≤ k ∧ k ≤ (i + 1) * 512 ∧ k ≤ Ld ∧ wx = wa) (fun v _ => (i + 1) * 512 - (intOf v).toNat)
               case atStart => exact ⟨i * 512, by go_num, Nat.le_refl _, by omega, by have := hMi.1 hlt; omega, rfl⟩
               case round =>
                obtain ⟨k, rfl, hka, hkb, hkc, rfl⟩ := hrel
                by_cases hk1 : k < (i + 1) * 512
                · have hkI : (k : Int) < ((i : Int) + 1) * 512 := by omega
                  by_cases hk2 : k < Ld
                  · have hki : k / 512 = i := by omega
                    obtain ⟨gd, rfl, hcd, hcell⟩ := HD.out k hk2
                    rw [hki, HX.out] at hcell
                    have hix := HIx.out k (by omega)
                    generalize (F ++ S).getD k 0 = y at hcell hix
                    rw [if_neg (by simp [h0, h1])] at hcell
                    go_wp2
                    refine ⟨⟨k + 1, by go_num, by omega, by omega, by omega, by first | rfl | trivial⟩, by simp [intOf]; omega⟩
                  · go_wp2
                    refine ⟨⟨i + 1, by go_num, congrArg (Value.int .i64) (by rw [hcs]; omega), by omega, by first | rfl | trivial⟩, by simp [intOf]; omega⟩
                · have hkI : ¬ (k : Int) < ((i : Int) + 1) * 512 := by omega
                  go_wp2
                  refine ⟨⟨i + 1, by go_num, congrArg (Value.int .i64) (by rw [hcs]; omega), by omega, by first | rfl | trivial⟩, by simp [intOf]; omega⟩
       · obtain rfl : M = i := by omega
         have hlI : ¬ (M : Int) * 512 < (Ld : Int) := by have := mt hMi.2 hlt; omega
         rw [← HNb.out]
         go_wp2
         go_ret
         exact ⟨rfl, hfin.out⟩
end Go.Proofs.YtglhedahannjiaaGreatDoor.Dw
