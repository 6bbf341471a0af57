/- A part of the proof of segmentSafe_holds: Sv. No condition. -/
import Derived.Deep.CutBlock
import Derived.Test.YtpckkdjdjkjapaaGreatDoorK01

/- SegmentSafe walked (printed by wip/tools/gen_safe.py). -/
namespace Go.Proofs.YtpckkdjdjkjapaaGreatDoor.Dw
open Go.RowKit Go.ChangeMaps Go.Proofs.YtpckkdjdjkjapaaGreatDoor.Mp Go.Proofs.YtpckkdjdjkjapaaGreatDoor.Dm Go.Proofs.YtpckkdjdjkjapaaGreatDoor.Da Go.Shelf
open Go.Proofs.YtpckkdjdjkjapaaGreatDoor.Sg (SegS packE Over Group heavyN Safe1 Safe2)
open Go.Proofs.YtpckkdjdjkjapaaGreatDoorW.PrintWords (ReadsInt string_of_reads)
set_option linter.unusedVariables false
set_option linter.unusedSimpArgs false
set_option linter.unusedSectionVars false
theorem fails_keep {w W : World} {v : Value} {fs : List (Int × Int)} (h : FailsAt w v fs) (hf : Frm (fun _ => False) w W) : FailsAt W v fs := h.frm hf (fun _ _ _ _ h => h)
set_option maxHeartbeats 8000000 in
set_option maxRecDepth 100000 in
theorem law_safe {w : World} {eb : Nat → Addr} {L : List Err} (he : ErrsAt w.heap.size w eb L) (hv : Env w.heap.size w L) (h10 : 10 ∈ L) (x : Nat) (hx : x < 18446744073709551616) (A : Option Addr) (c : Nat) (gs : List Group) (hg : GsOk w A c gs)
    (FA : Option Addr) (fc : Nat) (fails : List (Int × Int)) (hfa : FailsAt w (.slice FA fails.length fc) fails) (hfl : fails.length ≤ 8796093022208) (cut : Int)
    (p : Option Addr) (pc : Nat) (fs : List Int) (kk : Int) (hfs : ∀ j (hj : j < fs.length), ∃ ad, p = some ad ∧ w.cell? (ad.add j) = some (.int .i64 fs[j])) (hfsl : fs.length ≤ 4611686018427387904) :
    Calls Tryz.prog 8 #[.agg #[.int .u64 x, .slice A gs.length c, .slice FA fails.length fc, .int .i64 cut, .slice p fs.length pc, .int .i64 kk]] w fun e w' => e = .returned (.bool true) ∧ Frm (fun _ => False) w w' := by
  obtain ⟨N, hN⟩ : ∃ N, N = gs.length := ⟨_, rfl⟩
  obtain ⟨fl, hfln⟩ : ∃ fl, fl = fails.length := ⟨_, rfl⟩
  obtain ⟨pl, hpl⟩ : ∃ pl, pl = fs.length := ⟨_, rfl⟩
  obtain ⟨WB, hWB⟩ : ∃ WB, WB = w.alloc (.cells #[.int .u64 x, .slice A N c, .slice FA fl fc, .int .i64 cut, .slice p pl pc, .int .i64 kk] 91) := ⟨_, rfl⟩
  have fB : Frm (fun _ => False) w WB := by rw [hWB]; exact (Frm.refl _ _).alloc _
  have heB : ErrsAt WB.heap.size WB eb L := he.up fB fB.size
  have hvB : Env WB.heap.size WB L := hv.up fB fB.size
  have KA := Lib.hid (awake_calls heB hvB)
  have KH := Lib.hid (fun W (hW : Frm (fun _ => False) w W) => heavy_ok (⟨hg.at_.frm hW, hg.cap, hg.len⟩ : GsOk W A c gs))
  have KBX : Hid (∀ W, Frm (fun _ => False) WB W → W.cell? ⟨w.heap.size, 0, none⟩ = some (.int .u64 x) ∧ W.cell? ⟨w.heap.size, 1, none⟩ = some (.slice A N c) ∧ W.cell? ⟨w.heap.size, 2, none⟩ = some (.slice FA fl fc) ∧ W.cell? ⟨w.heap.size, 3, none⟩ = some (.int .i64 cut) ∧ W.cell? ⟨w.heap.size, 4, none⟩ = some (.slice p pl pc) ∧ W.cell? ⟨w.heap.size, 5, none⟩ = some (.int .i64 kk)) := Lib.hid (fun W hW => by
    have hb : WB.heap[w.heap.size]? = some (.cells #[.int .u64 x, .slice A N c, .slice FA fl fc, .int .i64 cut, .slice p pl pc, .int .i64 kk] 91) := by rw [hWB]; exact blk_alloc
    exact ⟨frmC hW (cell_of hb rfl), frmC hW (cell_of hb rfl), frmC hW (cell_of hb rfl), frmC hW (cell_of hb rfl), frmC hW (cell_of hb rfl), frmC hW (cell_of hb rfl)⟩)
  have HE := Lib.hid (And.intro heB (And.intro hvB (And.intro hg (And.intro hN (And.intro hfa hfs)))))
  have HF := Lib.hid (And.intro fB (And.intro h10 (And.intro hfl (And.intro hfsl (And.intro hfln hpl)))))
  rw [← hN, ← hfln, ← hpl]
  rw [← hN] at KH
  have hcN : N ≤ c := by have := hg.cap; omega
  have hlN : N ≤ 4611686018427387904 := by have := hg.len; omega
  have HWB := Lib.hid hWB
  clear he hv hg hN hfa hfs hfl hfsl hfln hpl fB heB hvB h10 hWB
  have v1 : errV eb 1 = .iface 320 (.pointer (some (eb 1))) := rfl
  have v4 : errV eb 4 = .iface 320 (.pointer (some (eb 4))) := rfl
  have v6 : errV eb 6 = .iface 320 (.pointer (some (eb 6))) := rfl
  have v7 : errV eb 7 = .iface 320 (.pointer (some (eb 7))) := rfl
  by_cases hskip : 4194304 < heavyN gs ∨ x < 1 ∨ 4611686018427387904 < x
  · by_cases hh : 4194304 < heavyN gs
    · have hs1 : decide (4194304 < heavyN gs) = true := decide_eq_true hh
      simp only [hs1] at KH
      clear hskip hh hs1
      go_enter Tryz.func8, Tryz.ntmps8
      go_wp2_with (first
        | (go_at_call 32; rw [← HWB.out]; (with_reducible refine KA.out.mono ?_); rintro e w1 ⟨rfl, hf1⟩; have H1 := Lib.hid hf1; obtain ⟨b10, b11, b12, b13, b14, b15⟩ := KBX.out w1 hf1; clear b12 b13 b14 b15 hf1)
        | (go_at_call 33; (with_reducible refine (KH.out _ (HF.out.1.trans H1.out (fun _ _ h => h))).mono ?_); rintro e w2 ⟨rfl, hf2⟩; have H2 := Lib.hid (H1.out.trans hf2 (fun _ _ h => h)); obtain ⟨b20, b21, b22, b23, b24, b25⟩ := KBX.out w2 (H1.out.trans hf2 (fun _ _ h => h)); clear b22 b23 b24 b25 hf2))
      go_ret
      exact ⟨rfl, HF.out.1.trans H2.out (fun _ _ h => h)⟩
    · have hs1 : decide (4194304 < heavyN gs) = false := decide_eq_false hh
      simp only [hs1] at KH
      have h3 : x = 0 ∨ (1 ≤ x ∧ 4611686018427387904 < x) := by omega
      clear hskip hh hs1
      rcases h3 with h4 | ⟨h4, h5⟩
      · have hd1 : decide ((x : Int) < 1) = true := decide_eq_true (by omega)
        clear h4
        go_enter Tryz.func8, Tryz.ntmps8
        go_wp2_with (first
          | (go_at_call 32; rw [← HWB.out]; (with_reducible refine KA.out.mono ?_); rintro e w1 ⟨rfl, hf1⟩; have H1 := Lib.hid hf1; obtain ⟨b10, b11, b12, b13, b14, b15⟩ := KBX.out w1 hf1; clear b12 b13 b14 b15 hf1)
          | (go_at_call 33; (with_reducible refine (KH.out _ (HF.out.1.trans H1.out (fun _ _ h => h))).mono ?_); rintro e w2 ⟨rfl, hf2⟩; have H2 := Lib.hid (H1.out.trans hf2 (fun _ _ h => h)); obtain ⟨b20, b21, b22, b23, b24, b25⟩ := KBX.out w2 (H1.out.trans hf2 (fun _ _ h => h)); clear b22 b23 b24 b25 hf2))
        go_ret
        exact ⟨rfl, HF.out.1.trans H2.out (fun _ _ h => h)⟩
      · have hd1 : decide ((x : Int) < 1) = false := decide_eq_false (by omega)
        have hd2 : decide ((4611686018427387904 : Int) < (x : Int)) = true := decide_eq_true (by omega)
        go_enter Tryz.func8, Tryz.ntmps8
        go_wp2_with (first
          | (go_at_call 32; rw [← HWB.out]; (with_reducible refine KA.out.mono ?_); rintro e w1 ⟨rfl, hf1⟩; have H1 := Lib.hid hf1; obtain ⟨b10, b11, b12, b13, b14, b15⟩ := KBX.out w1 hf1; clear b12 b13 b14 b15 hf1)
          | (go_at_call 33; (with_reducible refine (KH.out _ (HF.out.1.trans H1.out (fun _ _ h => h))).mono ?_); rintro e w2 ⟨rfl, hf2⟩; have H2 := Lib.hid (H1.out.trans hf2 (fun _ _ h => h)); obtain ⟨b20, b21, b22, b23, b24, b25⟩ := KBX.out w2 (H1.out.trans hf2 (fun _ _ h => h)); clear b22 b23 b24 b25 hf2))
        go_ret
        exact ⟨rfl, HF.out.1.trans H2.out (fun _ _ h => h)⟩
  · have hs1 : decide (4194304 < heavyN gs) = false := decide_eq_false (fun h => hskip (Or.inl h))
    have hs3 : 1 ≤ x := by omega
    have hs4 : x ≤ 4611686018427387904 := by omega
    have hd1 : decide ((x : Int) < 1) = false := decide_eq_false (by omega)
    have hd2 : decide ((4611686018427387904 : Int) < (x : Int)) = false := decide_eq_false (by omega)
    have HV : Hid (heavyN gs ≤ 4194304) := Lib.hid (by omega)
    simp only [hs1] at KH
    clear hskip hs1
    have KC : Hid (∀ W, Frm (fun _ => False) WB W → Calls Tryz.prog 34 #[dptr (W.heap.size + 2), .int .u64 x] (wBorn W) fun e w' => ∃ sb, e = .returned (.tuple #[.pointer (some ⟨sb, 0, none⟩), .nilIface]) ∧ SafeAt W w' eb L sb x gs 0 2 (.slice none 0 0) [] [] 0) := Lib.hid (fun W hW => by
      refine (start_calls (HE.out.1.up hW hW.size) (HE.out.2.1.up hW hW.size) x ⟨hs3, hs4⟩).mono ?_
      rintro e w' ⟨sb, rfl, h1, lab, D, h2, h3, h4⟩
      exact ⟨sb, rfl, safe_start h2 h4⟩)
    have KR : Hid (∀ W0 W sb i q v gs' rs sf, Frm (fun _ => False) WB W0 → SafeAt W0 W eb L sb x gs i q v gs' rs sf → Calls Tryz.prog 46 #[dptr (W0.heap.size + 2), .slice FA fl fc, .int .i64 cut] W fun e w' => e = .returned (.tuple #[]) ∧ SafeAt W0 w' eb L sb x gs i q v gs' rs sf) := Lib.hid (fun W0 W sb i q v gs' rs sf h0 hW => by
      have := hW.arm (.slice FA fails.length fc) fails cut (fails_keep HE.out.2.2.2.2.1 (HF.out.1.trans (h0.trans hW.frm (fun _ _ h => h)) (fun _ _ h => h))) HF.out.2.2.1
      rwa [← HF.out.2.2.2.2.1] at this)
    go_enter Tryz.func8, Tryz.ntmps8
    go_upto_block 0 with (first
      | (go_at_call 32; rw [← HWB.out]; (with_reducible refine KA.out.mono ?_); rintro e w1 ⟨rfl, hf1⟩; have H1 := Lib.hid hf1; obtain ⟨b10, b11, b12, b13, b14, b15⟩ := KBX.out w1 hf1; clear b12 b13 b14 b15 hf1)
      | (go_at_call 33; (with_reducible refine (KH.out _ (HF.out.1.trans H1.out (fun _ _ h => h))).mono ?_); rintro e w2 ⟨rfl, hf2⟩; have H2 := Lib.hid (H1.out.trans hf2 (fun _ _ h => h)); obtain ⟨b20, b21, b22, b23, b24, b25⟩ := KBX.out w2 (H1.out.trans hf2 (fun _ _ h => h)); clear b22 b23 b24 b25 hf2)
      | (go_at_call 10; (with_reducible refine (new_calls _).mono ?_); rintro e w3 ⟨rfl, rfl⟩; obtain ⟨b30, b31, b32, b33, b34, b35⟩ := KBX.out (wBorn w2) (H2.out.trans (Frm.of_below (born_below w2) _) (fun _ _ h => h)); clear b31 b32 b33 b34 b35)
      | (go_at_call 34; (with_reducible refine (KC.out _ H2.out).mono ?_); rintro e w4 ⟨sb, rfl, hs⟩; have HS := Lib.hid hs; obtain ⟨b40, b41, b42, b43, b44, b45⟩ := KBX.out w4 (H2.out.trans hs.frm (fun _ _ h => h)); clear b40 b41 b44 b45 hs)
      | (go_at_call 46; (with_reducible refine (KR.out _ _ _ _ _ _ _ _ _ H2.out HS.out).mono ?_); rintro e w5 ⟨rfl, hs5⟩; have HS5 := Lib.hid hs5; clear hs5))
    have H0 := Lib.hid (And.intro HS5.out H2.out)
    have FW : Hid (∀ W, Frm (fun _ => False) w2 W → Frm (fun _ => False) w W ∧ Frm (fun _ => False) WB W) := Lib.hid (fun W hW => ⟨HF.out.1.trans (H0.out.2.trans hW (fun _ _ h => h)) (fun _ _ h => h), H0.out.2.trans hW (fun _ _ h => h)⟩)
    clear HS HS5 KC KA KH KR
    go_cut [6, 7, 8, 9, 10] from 45 to 117 (fun v6 v7 v8 v9 v10 wx => ∃ av gs' sf, av = v6 ∧ v7 = .int .i64 (sf : Nat) ∧ EndAt w2 wx eb L x av gs' gs'.flatten sf)
    case first =>
      go_wp2_with fail
      go_loopw [8, 6, 7] (fun iv vv sv wr => ∃ i gs' av sf, iv = .int .i64 (i : Nat) ∧ av = vv ∧ sv = .int .i64 (sf : Nat) ∧ i ≤ N ∧ SafeAt w2 wr eb L sb x gs i (2 + 2 * i) av gs' gs'.flatten sf) (fun iv _ _ _ => N - (intOf iv).toNat)
      case atStart => exact ⟨0, [], _, 0, rfl, rfl, rfl, Nat.zero_le _, H0.out.1⟩
      case round =>
        obtain ⟨i, gs', av, sf, rfl, rfl, rfl, hi, hsa⟩ := hrel
        have HC := Lib.hid hsa
        clear hsa
        obtain ⟨bw0, bw1, bw2, bw3, bw4, bw5⟩ := KBX.out wr (FW.out _ HC.out.frm).2
        clear bw2 bw3 bw4 bw5
        by_cases hlt : i < N
        · obtain ⟨g, o, pp, c2, hA, k1, k2, k3, k4, k5, k6⟩ := HE.out.2.2.1.at_ i (by have := HE.out.2.2.2.1; omega)
          subst hA
          obtain ⟨rs, hrs⟩ : ∃ rs, rs = (gs[i]'(by have := HE.out.2.2.2.1; omega)).1 := ⟨_, rfl⟩
          obtain ⟨sy, hsy⟩ : ∃ sy, sy = (gs[i]'(by have := HE.out.2.2.2.1; omega)).2 := ⟨_, rfl⟩
          rw [← hrs] at k1 k3 k4 k5 k6
          rw [← hsy] at k2
          have KG := Lib.hid (fun W (hW : Frm (fun _ => False) w W) => (⟨frmC hW k1, frmC hW k2⟩ : W.cell? ⟨g, o + i * 2, none⟩ = some (.slice pp rs.length c2) ∧ W.cell? ⟨g, o + i * 2 + 1, none⟩ = some (.bool sy)))
          have HRS : Hid (rs ∈ gs.map (·.1)) := Lib.hid (by rw [hrs]; exact List.mem_map.2 ⟨_, List.getElem_mem _, rfl⟩)
          have HRI := Lib.hid hrs
          have HP : Hid (∀ W, Frm (fun _ => False) w W → RecsAt W pp rs) := Lib.hid (fun W hW => k5.frm hW)
          have HLW : Hid (∀ W, Frm (fun _ => False) w W → ∀ j (h : j < rs.length) a0 q k, pp = some a0 → W.cell? (a0.add j) = some (.slice q rs[j].length k) → 0 < rs[j].length → ∀ b, q = some b → b.block < w2.heap.size) := Lib.hid (fun W hW => recs_low k5 hW (Nat.le_trans HF.out.1.size H0.out.2.size))
          have HR : Hid (rs.length ≤ 4194304 ∧ ∀ r, r ∈ rs → ∀ x, x ∈ r → 0 ≤ x ∧ x < 256) := Lib.hid ⟨recs_light HRS.out HV.out, fun r hr => (k6 r hr).2⟩
          have hlr : rs.length ≤ 4194304 := HR.out.1
          obtain ⟨FL, hFL⟩ : ∃ FL, FL = gs'.flatten.length := ⟨_, rfl⟩
          have hfew := HC.out.few HV.out
          have hFL4 : FL ≤ 4194304 := by omega
          have hi4 : i ≤ 4194304 := by omega
          have HFL := Lib.hid hFL
          obtain ⟨pa, ca, hav, hca⟩ := HC.out.all.form
          rw [← hFL] at hav hca
          subst hav
          have KN : Hid (Calls Tryz.prog 42 #[.pointer (some ⟨sb, 0, none⟩)] wr fun e w' => e = .returned (.int .u64 ((x : Int) + (FL : Int))) ∧ w' = wr) := Lib.hid (by
            have := HC.out.next
            rw [← HFL.out] at this
            have e : ((x + FL : Nat) : Int) = (x : Int) + (FL : Int) := by omega
            simp only [e] at this
            exact this)
          have j0 := (KG.out wr (FW.out _ HC.out.frm).1).1
          have HIN : Hid (i < gs.length) := Lib.hid (by have := HE.out.2.2.2.1; omega)
          clear k1 k2 hrs hsy k5 k6 hFL hfew
          by_cases h0 : rs = []
          · subst h0
            simp only [List.length_nil] at KG k3 j0
            have KY := Lib.hid (HC.out.idle pp c2)
            unfold segP at KY
            go_upto_region 22 with (first
              | (go_at_call 42; (with_reducible refine KN.out.mono ?_); rintro e w9 ⟨rfl, hu⟩; subst hu)
              | (go_at_call 35; (with_reducible refine KY.out.mono ?_); rintro e w11 ⟨rfl, hu⟩; subst hu)
              | (at_builtin; refine wpl_append_recs rfl _ _ rfl (P := fun k => k < w2.heap.size) (base := w2.heap.size) rfl HC.out.all (A := pp) (n := 0) (c := c2) (ms := []) rfl rfl (fun j h => absurd h (by simp)) (fun j h => absurd h (by simp)) (fun k hk => HC.out.all.apart hk) (by have := HFL.out; show gs'.flatten.length + 0 ≤ _; omega) HC.out.frm.size ?_; intro v7' w7 hr7 hg7 hn7; have HG := Lib.hid (HC.out.grow hr7 hg7 hn7); have j7 := KG.out w7 (FW.out _ (HC.out.grow hr7 hg7 hn7).frm).1; obtain ⟨j71, j72⟩ := j7; obtain ⟨b70, b71, b72, b73, b74, b75⟩ := KBX.out w7 (FW.out _ (HC.out.grow hr7 hg7 hn7).frm).2; obtain ⟨p7, c7, e7', hc7⟩ := hr7.form; rw [List.append_nil, ← HFL.out] at e7' hc7; subst e7'; clear b72 b73 b74 b75 hr7 hg7 hn7 ))
            have HGS : Hid (SafeAt w2 _ eb L sb x gs (i + 1) (2 + 2 * i) _ gs' gs'.flatten sf) := Lib.hid (by have := HG.out.step HIN.out; rw [List.append_nil] at this; exact this)
            have HFN := HFL
            cases sy with
            | false =>
              go_wp2
              exact ⟨⟨i + 1, gs', _, sf, by go_num, rfl, rfl, by omega, HGS.out.more (by omega)⟩, by simp [intOf]; omega⟩
            | true =>
              rcases HGS.out.syncs HV.out (by omega) with KY2 | ⟨r, hr67, KY2⟩
              · have KY3 := Lib.hid KY2
                unfold segP at KY3
                clear KY2
                go_wp2_with (go_at_call 47; (with_reducible refine KY3.out.mono ?_); rintro e w12 ⟨rfl, hs12⟩; have HS12 := Lib.hid hs12; clear hs12)
                exact ⟨⟨i + 1, gs', _, FL, by go_num, rfl, rfl, by omega, by have := HS12.out.more (q' := 2 + 2 * (i + 1)) (by omega); rwa [← HFN.out] at this⟩, by simp [intOf]; omega⟩
              · rcases hr67 with rfl | rfl
                · have KY3 := Lib.hid KY2
                  unfold segP at KY3
                  simp only [v6] at KY3
                  clear KY2
                  go_wp2_with (go_at_call 47; (with_reducible refine KY3.out.mono ?_); rintro e w12 ⟨rfl, hs12⟩; have HS12 := Lib.hid hs12; clear hs12)
                  go_meet
                  exact ⟨_, _, _, rfl, rfl, HS12.out⟩
                · have KY3 := Lib.hid KY2
                  unfold segP at KY3
                  simp only [v7] at KY3
                  clear KY2
                  go_wp2_with (go_at_call 47; (with_reducible refine KY3.out.mono ?_); rintro e w12 ⟨rfl, hs12⟩; have HS12 := Lib.hid hs12; clear hs12)
                  go_meet
                  exact ⟨_, _, _, rfl, rfl, HS12.out⟩
          · obtain ⟨nr, hnr⟩ : ∃ nr, nr = rs.length := ⟨_, rfl⟩
            have hnr0 : 0 < nr := by have := List.length_pos_iff.2 h0; omega
            have H00 := Lib.hid h0
            rw [← hnr] at KG k3 k4 j0 hlr
            have HNR := Lib.hid hnr
            have HAP := Lib.hid (HP.out wr (FW.out _ HC.out.frm).1)
            clear hnr h0
            by_cases hp : (packE (x + gs'.flatten.length) rs).1 = 0
            · rcases HC.out.app HV.out hs3 HIN.out (by omega) pp c2 rs HRI.out HAP.out (by have := HNR.out; omega) HR.out.2 H00.out hp with KY1 | ⟨r, hr67, KY1⟩
              · have KY := Lib.hid KY1
                rw [← HNR.out] at KY
                unfold segP at KY
                clear KY1 hp
                go_upto_region 22 with (first
                  | (go_at_call 42; (with_reducible refine KN.out.mono ?_); rintro e w9 ⟨rfl, hu⟩; subst hu)
                  | (go_at_call 35; (with_reducible refine KY.out.mono ?_); rintro e w11 ⟨rfl, gs2, hfl2, hc2⟩; have HC2 := Lib.hid (And.intro hc2 hfl2); have j1 := (KG.out w11 (FW.out _ hc2.frm).1).1; obtain ⟨b60, b61, b62, b63, b64, b65⟩ := KBX.out w11 (FW.out _ hc2.frm).2; have HFN2 : Hid (FL + nr = gs2.flatten.length) := Lib.hid (by rw [hfl2, List.length_append, ← HFL.out, ← HNR.out]); clear b62 b63 b64 b65 hc2 hfl2)
                  | (at_builtin; refine wpl_append_recs rfl _ _ rfl (P := fun k => k < w2.heap.size) (base := w2.heap.size) rfl HC2.out.1.all (A := pp) (n := nr) (c := c2) (ms := rs) rfl HNR.out (HP.out w11 (FW.out _ HC2.out.1.frm).1) (HLW.out w11 (FW.out _ HC2.out.1.frm).1) (fun k hk => HC2.out.1.all.apart hk) (by have := HFL.out; have := HR.out.1; omega) HC2.out.1.frm.size ?_; intro v7' w7 hr7 hg7 hn7; have HG := Lib.hid (HC2.out.1.grow hr7 hg7 hn7); have j7 := KG.out w7 (FW.out _ (HC2.out.1.grow hr7 hg7 hn7).frm).1; obtain ⟨j71, j72⟩ := j7; obtain ⟨b70, b71, b72, b73, b74, b75⟩ := KBX.out w7 (FW.out _ (HC2.out.1.grow hr7 hg7 hn7).frm).2; obtain ⟨p7, c7, e7', hc7⟩ := hr7.form; rw [← HC2.out.2, ← HFN2.out] at e7' hc7; subst e7'; clear b72 b73 b74 b75 hr7 hg7 hn7 ))
                have HGS : Hid (SafeAt w2 _ eb L sb x gs (i + 1) (2 + 2 * i + 1) _ gs2 gs2.flatten sf) := Lib.hid (by have := HG.out; rw [← HC2.out.2] at this; exact this)
                have HFN := HFN2
                cases sy with
                | false =>
                  go_wp2
                  exact ⟨⟨i + 1, gs2, _, sf, by go_num, rfl, rfl, by omega, HGS.out.more (by omega)⟩, by simp [intOf]; omega⟩
                | true =>
                  rcases HGS.out.syncs HV.out (by omega) with KY2 | ⟨r, hr67, KY2⟩
                  · have KY3 := Lib.hid KY2
                    unfold segP at KY3
                    clear KY2
                    go_wp2_with (go_at_call 47; (with_reducible refine KY3.out.mono ?_); rintro e w12 ⟨rfl, hs12⟩; have HS12 := Lib.hid hs12; clear hs12)
                    exact ⟨⟨i + 1, gs2, _, (FL + nr), by go_num, rfl, rfl, by omega, by have := HS12.out.more (q' := 2 + 2 * (i + 1)) (by omega); rwa [← HFN.out] at this⟩, by simp [intOf]; omega⟩
                  · rcases hr67 with rfl | rfl
                    · have KY3 := Lib.hid KY2
                      unfold segP at KY3
                      simp only [v6] at KY3
                      clear KY2
                      go_wp2_with (go_at_call 47; (with_reducible refine KY3.out.mono ?_); rintro e w12 ⟨rfl, hs12⟩; have HS12 := Lib.hid hs12; clear hs12)
                      go_meet
                      exact ⟨_, _, _, rfl, rfl, HS12.out⟩
                    · have KY3 := Lib.hid KY2
                      unfold segP at KY3
                      simp only [v7] at KY3
                      clear KY2
                      go_wp2_with (go_at_call 47; (with_reducible refine KY3.out.mono ?_); rintro e w12 ⟨rfl, hs12⟩; have HS12 := Lib.hid hs12; clear hs12)
                      go_meet
                      exact ⟨_, _, _, rfl, rfl, HS12.out⟩
              · rcases hr67 with rfl | rfl
                · have KY := Lib.hid KY1
                  rw [← HNR.out] at KY
                  unfold segP at KY
                  simp only [v6] at KY
                  clear KY1 hp
                  go_wp2_with (first
                    | (go_at_call 42; (with_reducible refine KN.out.mono ?_); rintro e w9 ⟨rfl, hu⟩; subst hu)
                    | (go_at_call 35; (with_reducible refine KY.out.mono ?_); rintro e w11 ⟨rfl, gs2, hfl2, hc2⟩; have HC2 := Lib.hid (And.intro hc2 hfl2); have j1 := (KG.out w11 (FW.out _ hc2.frm).1).1; obtain ⟨b60, b61, b62, b63, b64, b65⟩ := KBX.out w11 (FW.out _ hc2.frm).2; have HFN2 : Hid (FL + nr = gs2.flatten.length) := Lib.hid (by rw [hfl2, List.length_append, ← HFL.out, ← HNR.out]); have e6 : w11.cell? ⟨2, 0, none⟩ = some (.iface 320 (.pointer (some (eb 6)))) := hc2.err 6 (by decide); have q66 : (binOp .eql 32 (.iface 320 (.pointer (some (eb 6)))) (.iface 320 (.pointer (some (eb 6))))).run Tryz.prog w11 = .ok (.bool true) w11 := hc2.eql (c := 6) (d := 6) (by decide) (by decide); clear b62 b63 b64 b65 hc2 hfl2)
                    | (at_builtin; refine wpl_append_recs rfl _ _ rfl (P := fun k => k < w2.heap.size) (base := w2.heap.size) rfl HC2.out.1.all (A := pp) (n := nr) (c := c2) (ms := rs) rfl HNR.out (HP.out w11 (FW.out _ HC2.out.1.frm).1) (HLW.out w11 (FW.out _ HC2.out.1.frm).1) (fun k hk => HC2.out.1.all.apart hk) (by have := HFL.out; have := HR.out.1; omega) HC2.out.1.frm.size ?_; intro v7' w7 hr7 hg7 hn7; have HG := Lib.hid (HC2.out.1.grow hr7 hg7 hn7); have j7 := KG.out w7 (FW.out _ (HC2.out.1.grow hr7 hg7 hn7).frm).1; obtain ⟨j71, j72⟩ := j7; obtain ⟨b70, b71, b72, b73, b74, b75⟩ := KBX.out w7 (FW.out _ (HC2.out.1.grow hr7 hg7 hn7).frm).2; obtain ⟨p7, c7, e7', hc7⟩ := hr7.form; rw [← HC2.out.2, ← HFN2.out] at e7' hc7; subst e7'; have HGG := HG.out; have g1 : w7.cell? ⟨4, 0, none⟩ = some (.iface 320 (.pointer (some (eb 1)))) := HGG.err 1 (by decide); have g4 : w7.cell? ⟨1, 0, none⟩ = some (.iface 320 (.pointer (some (eb 4)))) := HGG.err 4 (by decide); have n1 : (binOp .neq 32 (.iface 320 (.pointer (some (eb 6)))) (.iface 320 (.pointer (some (eb 1))))).run Tryz.prog w7 = .ok (.bool true) w7 := HGG.neq (c := 6) (d := 1) (by decide) (by decide); have n4 : (binOp .neq 32 (.iface 320 (.pointer (some (eb 6)))) (.iface 320 (.pointer (some (eb 4))))).run Tryz.prog w7 = .ok (.bool true) w7 := HGG.neq (c := 6) (d := 4) (by decide) (by decide); clear HGG; clear b72 b73 b74 b75 hr7 hg7 hn7 ))
                  go_meet
                  exact ⟨_, _, _, rfl, rfl, by have := HG.out; rw [← HC2.out.2] at this; exact this⟩
                · have KY := Lib.hid KY1
                  rw [← HNR.out] at KY
                  unfold segP at KY
                  simp only [v7] at KY
                  clear KY1 hp
                  go_wp2_with (first
                    | (go_at_call 42; (with_reducible refine KN.out.mono ?_); rintro e w9 ⟨rfl, hu⟩; subst hu)
                    | (go_at_call 35; (with_reducible refine KY.out.mono ?_); rintro e w11 ⟨rfl, gs2, hfl2, hc2⟩; have HC2 := Lib.hid (And.intro hc2 hfl2); have j1 := (KG.out w11 (FW.out _ hc2.frm).1).1; obtain ⟨b60, b61, b62, b63, b64, b65⟩ := KBX.out w11 (FW.out _ hc2.frm).2; have HFN2 : Hid (FL + nr = gs2.flatten.length) := Lib.hid (by rw [hfl2, List.length_append, ← HFL.out, ← HNR.out]); have e6 : w11.cell? ⟨2, 0, none⟩ = some (.iface 320 (.pointer (some (eb 6)))) := hc2.err 6 (by decide); have e7 : w11.cell? ⟨3, 0, none⟩ = some (.iface 320 (.pointer (some (eb 7)))) := hc2.err 7 (by decide); have q76 : (binOp .eql 32 (.iface 320 (.pointer (some (eb 7)))) (.iface 320 (.pointer (some (eb 6))))).run Tryz.prog w11 = .ok (.bool false) w11 := hc2.eql (c := 7) (d := 6) (by decide) (by decide); have q77 : (binOp .eql 32 (.iface 320 (.pointer (some (eb 7)))) (.iface 320 (.pointer (some (eb 7))))).run Tryz.prog w11 = .ok (.bool true) w11 := hc2.eql (c := 7) (d := 7) (by decide) (by decide); clear b62 b63 b64 b65 hc2 hfl2)
                    | (at_builtin; refine wpl_append_recs rfl _ _ rfl (P := fun k => k < w2.heap.size) (base := w2.heap.size) rfl HC2.out.1.all (A := pp) (n := nr) (c := c2) (ms := rs) rfl HNR.out (HP.out w11 (FW.out _ HC2.out.1.frm).1) (HLW.out w11 (FW.out _ HC2.out.1.frm).1) (fun k hk => HC2.out.1.all.apart hk) (by have := HFL.out; have := HR.out.1; omega) HC2.out.1.frm.size ?_; intro v7' w7 hr7 hg7 hn7; have HG := Lib.hid (HC2.out.1.grow hr7 hg7 hn7); have j7 := KG.out w7 (FW.out _ (HC2.out.1.grow hr7 hg7 hn7).frm).1; obtain ⟨j71, j72⟩ := j7; obtain ⟨b70, b71, b72, b73, b74, b75⟩ := KBX.out w7 (FW.out _ (HC2.out.1.grow hr7 hg7 hn7).frm).2; obtain ⟨p7, c7, e7', hc7⟩ := hr7.form; rw [← HC2.out.2, ← HFN2.out] at e7' hc7; subst e7'; have HGG := HG.out; have g1 : w7.cell? ⟨4, 0, none⟩ = some (.iface 320 (.pointer (some (eb 1)))) := HGG.err 1 (by decide); have g4 : w7.cell? ⟨1, 0, none⟩ = some (.iface 320 (.pointer (some (eb 4)))) := HGG.err 4 (by decide); have n1 : (binOp .neq 32 (.iface 320 (.pointer (some (eb 7)))) (.iface 320 (.pointer (some (eb 1))))).run Tryz.prog w7 = .ok (.bool true) w7 := HGG.neq (c := 7) (d := 1) (by decide) (by decide); have n4 : (binOp .neq 32 (.iface 320 (.pointer (some (eb 7)))) (.iface 320 (.pointer (some (eb 4))))).run Tryz.prog w7 = .ok (.bool true) w7 := HGG.neq (c := 7) (d := 4) (by decide) (by decide); clear HGG; clear b72 b73 b74 b75 hr7 hg7 hn7 ))
                  go_meet
                  exact ⟨_, _, _, rfl, rfl, by have := HG.out; rw [← HC2.out.2] at this; exact this⟩
            · have hp2 : (packE (x + gs'.flatten.length) rs).1 = 1 ∨ (packE (x + gs'.flatten.length) rs).1 = 4 := (Sg.packE_err (first := x + gs'.flatten.length) (rs := rs)).resolve_left hp
              have KY1 := HC.out.refuse pp c2 rs HAP.out (by have := HNR.out; omega) HR.out.1 HR.out.2 H00.out hp
              rcases hp2 with hp2 | hp2
              · have KY := Lib.hid KY1
                rw [← HNR.out] at KY
                rw [hp2] at KY
                unfold segP at KY
                simp only [v1] at KY
                clear KY1 hp hp2
                go_upto_region 22 with (first
                  | (go_at_call 42; (with_reducible refine KN.out.mono ?_); rintro e w9 ⟨rfl, hu⟩; subst hu)
                  | (go_at_call 35; (with_reducible refine KY.out.mono ?_); rintro e w11 ⟨rfl, hc2⟩; have HC2 := Lib.hid hc2; obtain ⟨j11, j12⟩ := KG.out w11 (FW.out _ hc2.frm).1; obtain ⟨b60, b61, b62, b63, b64, b65⟩ := KBX.out w11 (FW.out _ hc2.frm).2; have e6 : w11.cell? ⟨2, 0, none⟩ = some (.iface 320 (.pointer (some (eb 6)))) := hc2.err 6 (by decide); have e7 : w11.cell? ⟨3, 0, none⟩ = some (.iface 320 (.pointer (some (eb 7)))) := hc2.err 7 (by decide); have qc6 : (binOp .eql 32 (.iface 320 (.pointer (some (eb 1)))) (.iface 320 (.pointer (some (eb 6))))).run Tryz.prog w11 = .ok (.bool false) w11 := hc2.eql (c := 1) (d := 6) (by decide) (by decide); have qc7 : (binOp .eql 32 (.iface 320 (.pointer (some (eb 1)))) (.iface 320 (.pointer (some (eb 7))))).run Tryz.prog w11 = .ok (.bool false) w11 := hc2.eql (c := 1) (d := 7) (by decide) (by decide); have e1 : w11.cell? ⟨4, 0, none⟩ = some (.iface 320 (.pointer (some (eb 1)))) := hc2.err 1 (by decide); have n1 : (binOp .neq 32 (.iface 320 (.pointer (some (eb 1)))) (.iface 320 (.pointer (some (eb 1))))).run Tryz.prog w11 = .ok (.bool false) w11 := hc2.neq (c := 1) (d := 1) (by decide) (by decide); clear b62 b63 b64 b65 hc2))
                have HGS : Hid (SafeAt w2 _ eb L sb x gs (i + 1) (2 + 2 * i) _ gs' gs'.flatten sf) := Lib.hid (HC2.out.step HIN.out)
                have HFN := HFL
                cases sy with
                | false =>
                  go_wp2
                  exact ⟨⟨i + 1, gs', _, sf, by go_num, rfl, rfl, by omega, HGS.out.more (by omega)⟩, by simp [intOf]; omega⟩
                | true =>
                  rcases HGS.out.syncs HV.out (by omega) with KY2 | ⟨r, hr67, KY2⟩
                  · have KY3 := Lib.hid KY2
                    unfold segP at KY3
                    clear KY2
                    go_wp2_with (go_at_call 47; (with_reducible refine KY3.out.mono ?_); rintro e w12 ⟨rfl, hs12⟩; have HS12 := Lib.hid hs12; clear hs12)
                    exact ⟨⟨i + 1, gs', _, FL, by go_num, rfl, rfl, by omega, by have := HS12.out.more (q' := 2 + 2 * (i + 1)) (by omega); rwa [← HFN.out] at this⟩, by simp [intOf]; omega⟩
                  · rcases hr67 with rfl | rfl
                    · have KY3 := Lib.hid KY2
                      unfold segP at KY3
                      simp only [v6] at KY3
                      clear KY2
                      go_wp2_with (go_at_call 47; (with_reducible refine KY3.out.mono ?_); rintro e w12 ⟨rfl, hs12⟩; have HS12 := Lib.hid hs12; clear hs12)
                      go_meet
                      exact ⟨_, _, _, rfl, rfl, HS12.out⟩
                    · have KY3 := Lib.hid KY2
                      unfold segP at KY3
                      simp only [v7] at KY3
                      clear KY2
                      go_wp2_with (go_at_call 47; (with_reducible refine KY3.out.mono ?_); rintro e w12 ⟨rfl, hs12⟩; have HS12 := Lib.hid hs12; clear hs12)
                      go_meet
                      exact ⟨_, _, _, rfl, rfl, HS12.out⟩
              · have KY := Lib.hid KY1
                rw [← HNR.out] at KY
                rw [hp2] at KY
                unfold segP at KY
                simp only [v4] at KY
                clear KY1 hp hp2
                go_upto_region 22 with (first
                  | (go_at_call 42; (with_reducible refine KN.out.mono ?_); rintro e w9 ⟨rfl, hu⟩; subst hu)
                  | (go_at_call 35; (with_reducible refine KY.out.mono ?_); rintro e w11 ⟨rfl, hc2⟩; have HC2 := Lib.hid hc2; obtain ⟨j11, j12⟩ := KG.out w11 (FW.out _ hc2.frm).1; obtain ⟨b60, b61, b62, b63, b64, b65⟩ := KBX.out w11 (FW.out _ hc2.frm).2; have e6 : w11.cell? ⟨2, 0, none⟩ = some (.iface 320 (.pointer (some (eb 6)))) := hc2.err 6 (by decide); have e7 : w11.cell? ⟨3, 0, none⟩ = some (.iface 320 (.pointer (some (eb 7)))) := hc2.err 7 (by decide); have qc6 : (binOp .eql 32 (.iface 320 (.pointer (some (eb 4)))) (.iface 320 (.pointer (some (eb 6))))).run Tryz.prog w11 = .ok (.bool false) w11 := hc2.eql (c := 4) (d := 6) (by decide) (by decide); have qc7 : (binOp .eql 32 (.iface 320 (.pointer (some (eb 4)))) (.iface 320 (.pointer (some (eb 7))))).run Tryz.prog w11 = .ok (.bool false) w11 := hc2.eql (c := 4) (d := 7) (by decide) (by decide); have e1 : w11.cell? ⟨4, 0, none⟩ = some (.iface 320 (.pointer (some (eb 1)))) := hc2.err 1 (by decide); have e4 : w11.cell? ⟨1, 0, none⟩ = some (.iface 320 (.pointer (some (eb 4)))) := hc2.err 4 (by decide); have n1 : (binOp .neq 32 (.iface 320 (.pointer (some (eb 4)))) (.iface 320 (.pointer (some (eb 1))))).run Tryz.prog w11 = .ok (.bool true) w11 := hc2.neq (c := 4) (d := 1) (by decide) (by decide); have n4 : (binOp .neq 32 (.iface 320 (.pointer (some (eb 4)))) (.iface 320 (.pointer (some (eb 4))))).run Tryz.prog w11 = .ok (.bool false) w11 := hc2.neq (c := 4) (d := 4) (by decide) (by decide); clear b62 b63 b64 b65 hc2))
                have HGS : Hid (SafeAt w2 _ eb L sb x gs (i + 1) (2 + 2 * i) _ gs' gs'.flatten sf) := Lib.hid (HC2.out.step HIN.out)
                have HFN := HFL
                cases sy with
                | false =>
                  go_wp2
                  exact ⟨⟨i + 1, gs', _, sf, by go_num, rfl, rfl, by omega, HGS.out.more (by omega)⟩, by simp [intOf]; omega⟩
                | true =>
                  rcases HGS.out.syncs HV.out (by omega) with KY2 | ⟨r, hr67, KY2⟩
                  · have KY3 := Lib.hid KY2
                    unfold segP at KY3
                    clear KY2
                    go_wp2_with (go_at_call 47; (with_reducible refine KY3.out.mono ?_); rintro e w12 ⟨rfl, hs12⟩; have HS12 := Lib.hid hs12; clear hs12)
                    exact ⟨⟨i + 1, gs', _, FL, by go_num, rfl, rfl, by omega, by have := HS12.out.more (q' := 2 + 2 * (i + 1)) (by omega); rwa [← HFN.out] at this⟩, by simp [intOf]; omega⟩
                  · rcases hr67 with rfl | rfl
                    · have KY3 := Lib.hid KY2
                      unfold segP at KY3
                      simp only [v6] at KY3
                      clear KY2
                      go_wp2_with (go_at_call 47; (with_reducible refine KY3.out.mono ?_); rintro e w12 ⟨rfl, hs12⟩; have HS12 := Lib.hid hs12; clear hs12)
                      go_meet
                      exact ⟨_, _, _, rfl, rfl, HS12.out⟩
                    · have KY3 := Lib.hid KY2
                      unfold segP at KY3
                      simp only [v7] at KY3
                      clear KY2
                      go_wp2_with (go_at_call 47; (with_reducible refine KY3.out.mono ?_); rintro e w12 ⟨rfl, hs12⟩; have HS12 := Lib.hid hs12; clear hs12)
                      go_meet
                      exact ⟨_, _, _, rfl, rfl, HS12.out⟩
        · obtain rfl : i = N := by omega
          go_wp2
          go_meet
          exact ⟨_, _, _, rfl, rfl, HC.out.end_ HV.out⟩
    case rest =>
      obtain ⟨av, gs', sf, rfl, rfl, hE⟩ := hcut
      have HEN := Lib.hid hE
      clear hE
      obtain ⟨bx0, bx1, bx2, bx3, bx4, bx5⟩ := KBX.out wc (FW.out _ HEN.out.frm).2
      clear bx1 bx2 bx3
      obtain ⟨RL, hRL⟩ : ∃ RL, RL = gs'.flatten.length := ⟨_, rfl⟩
      obtain ⟨pa, ca, hav, hca⟩ := HEN.out.all.form
      rw [← hRL] at hav hca
      subst hav
      have hRL4 : RL ≤ 4194304 := by have := HEN.out.few; omega
      have HRL := Lib.hid hRL
      clear hRL
      have KCR : Hid (Calls Tryz.prog 16 #[dptr (w2.heap.size + 2), .agg #[.slice p pl pc, .int .i64 kk]] wc fun e w' => ∃ iv, e = .returned iv ∧ LeftAt w2 w' eb L x (.slice pa RL ca) gs' gs'.flatten sf iv) := Lib.hid (by
        have := HEN.out.crash fs kk p pc (fun j hj => by
          obtain ⟨ad, e1, e2⟩ := HE.out.2.2.2.2.2 j hj
          exact ⟨ad, e1, frmC (FW.out _ HEN.out.frm).1 e2⟩) HF.out.2.2.2.1
        rwa [← HF.out.2.2.2.2.2] at this)
      go_upto_region 30 with (first
        | (go_at_call 16; (with_reducible refine KCR.out.mono ?_); rintro e w20 ⟨iv, rfl, hl20⟩; have HL20 := Lib.hid hl20; have KLD := Lib.hid (hl20.load HF.out.2.1); clear hl20)
        | (go_at_call 12; (with_reducible refine KLD.out.mono ?_); rintro e w21 ⟨b, rfl, hb21⟩; have KOP := Lib.hid (hb21.open_ ⟨hs3, hs4⟩); obtain ⟨bb0, bb1, bb2, bb3, bb4, bb5⟩ := KBX.out w21 (FW.out _ hb21.frm).2; clear bb1 bb2 bb3 bb4 bb5 hb21)
        | (go_at_call 36; (with_reducible refine KOP.out.mono ?_); rintro e w22 ⟨t, p22, c22, l, rfl, hc22, hr22, ha22, hl1, hl2, hl3, hnx, hf22⟩; have HO22 := Lib.hid (And.intro hr22 (And.intro ha22 (And.intro hl1 (And.intro hnx hf22)))); rw [← HRL.out] at hl3; clear hr22 ha22 hl1 hnx hf22; unfold segP))
      obtain ⟨ll, hll⟩ : ∃ ll, ll = l.length := ⟨_, rfl⟩
      rw [← hll] at hl2 hl3 hc22 ⊢
      have HLL := Lib.hid hll
      clear hll
      have hge : decide ((sf : Int) ≤ (ll : Int)) = true := decide_eq_true (by omega)
      have hle : decide ((ll : Int) ≤ (RL : Int)) = true := decide_eq_true (by omega)
      have hbi : (ll : Int) ≤ (ca : Int) := by omega
      have KX : Hid (∀ W, Frm (fun _ => False) w22 W → W.cell? ⟨w.heap.size, 0, none⟩ = some (.int .u64 x)) := Lib.hid (fun W hW => (KBX.out W (FW.out _ (HO22.out.2.2.2.2.trans hW (fun _ _ h => h))).2).1)
      have KLI : Hid (∀ W, Frm (fun _ => False) w22 W → Calls Tryz.prog 37 #[.slice p22 ll c22, .slice pa ll ca] W fun e w' => e = .returned (.bool true) ∧ Frm (fun _ => False) W w') := Lib.hid (fun W hW => by
        obtain ⟨hr22, ha22, hl1, hnx, hf22⟩ := HO22.out
        have hby : ∀ r, r ∈ gs'.flatten → ∀ y, y ∈ r → 0 ≤ y ∧ y < 256 := HEN.out.byt
        have hlt : (gs'.flatten.take ll).length = ll := by rw [List.length_take, ← HRL.out]; omega
        have := lists_calls W p22 pa c22 ca l (gs'.flatten.take ll) (hr22.frm hW) (((ha22.frm hW).at_).take ll) (by rw [← HLL.out]; omega) (by rw [hlt]; omega) (by rw [← HLL.out]; omega) (by rw [hlt]; omega) (fun r hr => by rw [hl1] at hr; exact hby r (List.mem_of_mem_take hr)) (fun r hr => hby r (List.mem_of_mem_take hr))
        rw [hlt, ← HLL.out] at this
        rw [← HLL.out] at hl1
        rwa [decide_eq_true hl1] at this)
      have KNX : Hid (∀ W, Frm (fun _ => False) w22 W → Calls Tryz.prog 42 #[.pointer (some ⟨t, 0, none⟩)] W fun e w' => e = .returned (.int .u64 (IntKind.u64.wrap ((x : Int) + IntKind.u64.wrap (ll : Int)))) ∧ w' = W) := Lib.hid (fun W hW => by
        have := HO22.out.2.2.2.1 W hW
        rw [← HLL.out] at this
        have e : IntKind.u64.wrap ((x : Int) + IntKind.u64.wrap (ll : Int)) = ((x + ll : Nat) : Int) := by simp only [IntKind.wrap_u64]; omega
        rw [e]
        exact this)
      have S0 := Lib.hid (KX.out w22 (Frm.refl _ _))
      have D0 := Lib.hid (KX.out w22.drew (Frm.refl _ _).drew)
      cases pa with
      | none =>
        obtain ⟨hz1, hz2⟩ : RL = 0 ∧ ca = 0 := HEN.out.all.isNil
        have hz3 : ll = 0 := by omega
        have hz4 : sf = 0 := by omega
        subst hz1 hz2 hz3 hz4
        have c0 : ((0 : Nat) : Int) = 0 := rfl
        simp only [c0] at KNX
        clear hge hle hbi hl2 hl3
        go_region_held3 (fun W => W.cell? ⟨w.heap.size, 0, none⟩ = some (.int .u64 x))
          (first | with_reducible exact S0.out | with_reducible exact D0.out | exact KX.out _ HU.out | (refine KX.out _ ?_; repeat' (first | exact Frm.refl _ _ | refine Frm.alloc ?_ _ | refine Frm.drew ?_)) | go_keep)
          (first
            | (go_at_call 37; (with_reducible refine (KLI.out _ (by first | exact Frm.refl _ _ | exact (Frm.refl _ _).drew)).mono ?_); rintro e u1 ⟨rfl, hu⟩; have HU : Hid (Frm (fun _ => False) w22 u1) := Lib.hid (by first | exact hu | exact (Frm.refl _ _).drew.trans hu (fun _ _ h => h)); clear hu)
            | (go_at_call 42; (with_reducible refine (KNX.out _ HU.out).mono ?_); rintro e u2 ⟨rfl, hu⟩; subst hu))
        all_goals
          go_wp2
          go_ret
          exact ⟨rfl, (FW.out _ (HO22.out.2.2.2.2.trans HU.out (fun _ _ h => h))).1⟩
      | some pa =>
        go_region_held3 (fun W => W.cell? ⟨w.heap.size, 0, none⟩ = some (.int .u64 x))
          (first | with_reducible exact S0.out | with_reducible exact D0.out | exact KX.out _ HU.out | (refine KX.out _ ?_; repeat' (first | exact Frm.refl _ _ | refine Frm.alloc ?_ _ | refine Frm.drew ?_)) | go_keep)
          (first
            | (go_at_call 37; (with_reducible refine (KLI.out _ (by first | exact Frm.refl _ _ | exact (Frm.refl _ _).drew)).mono ?_); rintro e u1 ⟨rfl, hu⟩; have HU : Hid (Frm (fun _ => False) w22 u1) := Lib.hid (by first | exact hu | exact (Frm.refl _ _).drew.trans hu (fun _ _ h => h)); clear hu)
            | (go_at_call 42; (with_reducible refine (KNX.out _ HU.out).mono ?_); rintro e u2 ⟨rfl, hu⟩; subst hu))
        all_goals
          go_wp2
          go_ret
          exact ⟨rfl, (FW.out _ (HO22.out.2.2.2.2.trans HU.out (fun _ _ h => h))).1⟩
end Go.Proofs.YtpckkdjdjkjapaaGreatDoor.Dw
