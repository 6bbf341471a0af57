/- A part of the proof of segmentCuts_holds: Cu. No condition. -/
import Derived.Test.YtpckkdjdjkjapaaGreatDoorK01

/- SegmentCuts walked. -/
namespace Go.Proofs.YtpckkdjdjkjapaaGreatDoor.Dw
open Go.RowKit Go.ChangeMaps Go.Proofs.YtpckkdjdjkjapaaGreatDoor.Mp Go.Proofs.YtpckkdjdjkjapaaGreatDoor.Dm Go.Proofs.YtpckkdjdjkjapaaGreatDoor.Da Go.Shelf
open Go.Proofs.YtpckkdjdjkjapaaGreatDoor.Sg (SegS packE Over Group heavyN)
open Go.Proofs.YtpckkdjdjkjapaaGreatDoorW.PrintWords (ReadsInt string_of_reads)
open Go.Proofs.YtpckkdjdjkjapaaGreatDoorW.PrintLast
set_option linter.unusedVariables false
set_option linter.unusedSimpArgs false
set_option linter.unusedSectionVars false
set_option maxHeartbeats 4000000 in
set_option maxRecDepth 100000 in
theorem law_cuts {w : World} {eb : Nat → Addr} {L : List Err} (he : ErrsAt w.heap.size w eb L) (hv : Env w.heap.size w L) (x : Nat) (hx : x < 18446744073709551616) (A : Option Addr) (c : Nat) (gs : List Group) (hg : GsOk w A c gs)
    (J : Option Addr) (jc : Nat) (junk : List Int) (hjc : junk.length ≤ jc) (hjr : ReadsInt w .u8 J junk.length junk) (hjl : junk.length ≤ 140737488355328) (hjb : ∀ x, x ∈ junk → 0 ≤ x ∧ x < 256) :
    Calls Tryz.prog 5 #[.int .u64 x, .slice A gs.length c, .slice J junk.length jc] w fun e w' => e = .returned (.bool true) ∧ Frm (fun _ => False) w w' := by
  have KA := Lib.hid (awake_calls he hv)
  have KH := Lib.hid (fun W (hW : Frm (fun _ => False) w W) => heavy_ok (⟨hg.at_.frm hW, hg.cap, hg.len⟩ : GsOk W A c gs))
  obtain ⟨N, hN⟩ : ∃ N, N = gs.length := ⟨_, rfl⟩
  obtain ⟨M, hM⟩ : ∃ M, M = junk.length := ⟨_, rfl⟩
  have HE := Lib.hid (And.intro he (And.intro hv (And.intro hg hN)))
  have HJ := Lib.hid (And.intro hjr (And.intro hjb hM))
  rw [← hN] at KH ⊢
  rw [← hM] at hjc hjl ⊢
  have hcN : N ≤ c := by have := hg.cap; omega
  have hlN : N ≤ 4611686018427387904 := by have := hg.len; omega
  clear he hv hg hN hjr hjb hM
  have c0 : ((0 : Nat) : Int) = 0 := rfl
  have v13 : errV eb 13 = .iface 320 (.pointer (some (eb 13))) := rfl
  have v4 : errV eb 4 = .iface 320 (.pointer (some (eb 4))) := rfl
  by_cases hskip : 4194304 < heavyN gs ∨ 4194304 < M ∨ x < 1 ∨ 2305843009213693952 < x
  · by_cases hh : 4194304 < heavyN gs
    · have hs1 : decide (4194304 < heavyN gs) = true := decide_eq_true hh
      simp only [hs1] at KH
      clear hskip hh hs1
      go_enter Tryz.func5, Tryz.ntmps5
      go_wp2_with (first
        | (go_at_call 32; (with_reducible refine KA.out.mono ?_); rintro e w1 ⟨rfl, hf1⟩; have H1 := Lib.hid hf1; clear hf1)
        | (go_at_call 33; (with_reducible refine (KH.out _ H1.out).mono ?_); rintro e w2 ⟨rfl, hf2⟩; have H2 := Lib.hid (H1.out.trans hf2 (fun _ _ h => h)); clear hf2))
      go_ret
      exact ⟨rfl, H2.out⟩
    · have hs1 : decide (4194304 < heavyN gs) = false := decide_eq_false hh
      simp only [hs1] at KH
      have h3 : 4194304 < M ∨ (M ≤ 4194304 ∧ x = 0) ∨ (M ≤ 4194304 ∧ 1 ≤ x ∧ 2305843009213693952 < x) := by omega
      clear hskip hh hs1
      rcases h3 with h3 | ⟨h3, h4⟩ | ⟨h3, h4, h5⟩
      · have hN0 : decide ((4194304 : Int) < (M : Int)) = true := decide_eq_true (by omega)
        go_enter Tryz.func5, Tryz.ntmps5
        go_wp2_with (first
          | (go_at_call 32; (with_reducible refine KA.out.mono ?_); rintro e w1 ⟨rfl, hf1⟩; have H1 := Lib.hid hf1; clear hf1)
          | (go_at_call 33; (with_reducible refine (KH.out _ H1.out).mono ?_); rintro e w2 ⟨rfl, hf2⟩; have H2 := Lib.hid (H1.out.trans hf2 (fun _ _ h => h)); clear hf2))
        go_ret
        exact ⟨rfl, H2.out⟩
      · have hN0 : decide ((4194304 : Int) < (M : Int)) = false := decide_eq_false (by omega)
        have hd1 : decide ((x : Int) < 1) = true := decide_eq_true (by omega)
        go_enter Tryz.func5, Tryz.ntmps5
        go_wp2_with (first
          | (go_at_call 32; (with_reducible refine KA.out.mono ?_); rintro e w1 ⟨rfl, hf1⟩; have H1 := Lib.hid hf1; clear hf1)
          | (go_at_call 33; (with_reducible refine (KH.out _ H1.out).mono ?_); rintro e w2 ⟨rfl, hf2⟩; have H2 := Lib.hid (H1.out.trans hf2 (fun _ _ h => h)); clear hf2))
        go_ret
        exact ⟨rfl, H2.out⟩
      · have hN0 : decide ((4194304 : Int) < (M : Int)) = false := decide_eq_false (by omega)
        have hd1 : decide ((x : Int) < 1) = false := decide_eq_false (by omega)
        have hd2 : decide ((2305843009213693952 : Int) < (x : Int)) = true := decide_eq_true (by omega)
        go_enter Tryz.func5, Tryz.ntmps5
        go_wp2_with (first
          | (go_at_call 32; (with_reducible refine KA.out.mono ?_); rintro e w1 ⟨rfl, hf1⟩; have H1 := Lib.hid hf1; clear hf1)
          | (go_at_call 33; (with_reducible refine (KH.out _ H1.out).mono ?_); rintro e w2 ⟨rfl, hf2⟩; have H2 := Lib.hid (H1.out.trans hf2 (fun _ _ h => h)); clear hf2))
        go_ret
        exact ⟨rfl, H2.out⟩
  · have hs1 : decide (4194304 < heavyN gs) = false := decide_eq_false (fun h => hskip (Or.inl h))
    have hM4 : M ≤ 4194304 := by omega
    have hs3 : 1 ≤ x := by omega
    have hs4 : x ≤ 2305843009213693952 := by omega
    have hN0 : decide ((4194304 : Int) < (M : Int)) = false := decide_eq_false (by omega)
    have hd1 : decide ((x : Int) < 1) = false := decide_eq_false (by omega)
    have hd2 : decide ((2305843009213693952 : Int) < (x : Int)) = false := decide_eq_false (by omega)
    have HV : Hid (heavyN gs ≤ 4194304) := Lib.hid (by omega)
    simp only [hs1] at KH
    clear hskip hs1
    have KC : Hid (∀ W, Frm (fun _ => False) w W → Calls Tryz.prog 34 #[dptr (W.heap.size + 2), .int .u64 x] (wBorn W) fun e w' => ∃ sb, e = .returned (.tuple #[.pointer (some ⟨sb, 0, none⟩), .nilIface]) ∧ CutAt W w' eb L sb x gs 0 (.slice none 0 0) [] []) := Lib.hid (fun W hW => by
      refine (start_calls (HE.out.1.up hW hW.size) (HE.out.2.1.up hW hW.size) x ⟨hs3, by omega⟩).mono ?_
      rintro e w' ⟨sb, rfl, h1, lab, D, h2, h3, h4⟩
      exact ⟨sb, rfl, ⟨lab, 2, 0, D, _, _, h2, fun g e => by simp [Value.ownBlock] at e, by omega, by simp⟩, RecsRef.nil _ _ _, h4, by simp, fun r hr => by simp at hr⟩)
    go_enter Tryz.func5, Tryz.ntmps5
    go_wp2_with (first
      | (go_at_call 32; (with_reducible refine KA.out.mono ?_); rintro e w1 ⟨rfl, hf1⟩; have H1 := Lib.hid hf1; clear hf1)
      | (go_at_call 33; (with_reducible refine (KH.out _ H1.out).mono ?_); rintro e w2 ⟨rfl, hf2⟩; have H2 := Lib.hid (H1.out.trans hf2 (fun _ _ h => h)); clear hf2)
      | (go_at_call 10; (with_reducible refine (new_calls _).mono ?_); rintro e w3 ⟨rfl, rfl⟩)
      | (go_at_call 34; (with_reducible refine (KC.out _ H2.out).mono ?_); rintro e w4 ⟨sb, rfl, hs⟩; have HS := Lib.hid hs; clear hs))
    have H0 := Lib.hid (And.intro HS.out H2.out)
    clear HS KC KA KH
    go_loopw [11, 10] (fun iv vv wr => ∃ i gs' av, iv = .int .i64 (i : Nat) ∧ av = vv ∧ i ≤ N ∧ CutAt w2 wr eb L sb x gs i av gs' gs'.flatten) (fun iv _ _ => N - (intOf iv).toNat)
    case atStart => exact ⟨0, [], _, rfl, rfl, Nat.zero_le _, H0.out.1⟩
    case round =>
      obtain ⟨i, gs', av, rfl, rfl, hi, hcut⟩ := hrel
      have HC := Lib.hid hcut
      clear hcut
      by_cases hlt : i < N
      · obtain ⟨g, o, p, c2, hA, k1, k2, k3, k4, k5, k6⟩ := HE.out.2.2.1.at_ i (by have := HE.out.2.2.2; omega)
        subst hA
        obtain ⟨rs, hrs⟩ : ∃ rs, rs = (gs[i]'(by have := HE.out.2.2.2; omega)).1 := ⟨_, rfl⟩
        rw [← hrs] at k1 k3 k4 k5 k6
        have KG := Lib.hid (fun W (hW : Frm (fun _ => False) w W) => (frmC hW k1 : W.cell? ⟨g, o + i * 2, none⟩ = some (.slice p rs.length c2)))
        have HRS : Hid (rs ∈ gs.map (·.1)) := Lib.hid (by rw [hrs]; exact List.mem_map.2 ⟨_, List.getElem_mem _, rfl⟩)
        have HRI := Lib.hid hrs
        have HP : Hid (∀ W, Frm (fun _ => False) w W → RecsAt W p rs) := Lib.hid (fun W hW => k5.frm hW)
        have HLW : Hid (∀ W, Frm (fun _ => False) w W → ∀ j (h : j < rs.length) a0 q k, p = some a0 → W.cell? (a0.add j) = some (.slice q rs[j].length k) → 0 < rs[j].length → ∀ b, q = some b → b.block < w2.heap.size) := Lib.hid (fun W hW => recs_low k5 hW H0.out.2.size)
        have HR : Hid (rs.length ≤ 4194304 ∧ ∀ r, r ∈ rs → ∀ x, x ∈ r → 0 ≤ x ∧ x < 256) := Lib.hid ⟨recs_light HRS.out HV.out, fun r hr => (k6 r hr).2⟩
        have hlr : rs.length ≤ 4194304 := HR.out.1
        have HFW : Hid (gs'.flatten.length ≤ 4194304) := Lib.hid (by have := HC.out.few HV.out; omega)
        have j0 := KG.out wr (H0.out.2.trans HC.out.frm (fun _ _ h => h))
        have HIN : Hid (i < gs.length) := Lib.hid (by have := HE.out.2.2.2; omega)
        clear k1 k2 hrs k5 k6
        by_cases h0 : rs = []
        · subst h0
          simp only [List.length_nil] at KG k3 j0
          have KY := Lib.hid (HC.out.idle p c2)
          unfold segP at KY
          go_wp2_with (first
            | (go_at_call 35; (with_reducible refine KY.out.mono ?_); rintro e w11 ⟨rfl, rfl⟩)
            | (at_builtin; refine wpl_append_recs rfl _ _ rfl (P := fun k => k < w2.heap.size) (base := w2.heap.size) rfl HC.out.all (A := p) (n := 0) (c := c2) (ms := []) rfl rfl (fun j h => absurd h (by simp)) (fun j h => absurd h (by simp)) (fun k hk => HC.out.all.apart hk) (by have := HFW.out; show gs'.flatten.length + 0 ≤ _; omega) HC.out.low ?_; intro v7 w7 hr7 hg7 hn7; have HG := Lib.hid (HC.out.grow hr7 hg7 hn7); clear hr7 hg7 hn7))
          exact ⟨⟨i + 1, gs', _, by go_num, rfl, by omega, by have := HG.out.step HIN.out; rwa [List.append_nil] at this⟩, by simp [intOf]; omega⟩
        · obtain ⟨nr, hnr⟩ : ∃ nr, nr = rs.length := ⟨_, rfl⟩
          have hnr0 : 0 < nr := by have := List.length_pos_iff.2 h0; omega
          have H00 := Lib.hid h0
          rw [← hnr] at KG k3 k4 j0 hlr
          have HNR := Lib.hid hnr
          have HX3 := Lib.hid (And.intro hs3 hs4)
          have HAP := Lib.hid (HP.out wr (H0.out.2.trans HC.out.frm (fun _ _ h => h)))
          clear hnr h0
          by_cases hp : (packE (x + gs'.flatten.length) rs).1 = 0
          · have KY := Lib.hid (HC.out.goes HV.out HX3.out HIN.out p c2 rs HRI.out HAP.out (by have := HNR.out; omega) HR.out.2 H00.out hp)
            rw [← HNR.out] at KY
            unfold segP at KY
            clear hp
            go_wp2_with (first
              | (go_at_call 35; (with_reducible refine KY.out.mono ?_); rintro e w11 ⟨rfl, gs2, hfl2, hc2⟩; have HC2 := Lib.hid (And.intro hc2 hfl2); have j1 := KG.out w11 (H0.out.2.trans hc2.frm (fun _ _ h => h)); clear hc2 hfl2)
              | (at_builtin; refine wpl_append_recs rfl _ _ rfl (P := fun k => k < w2.heap.size) (base := w2.heap.size) rfl HC2.out.1.all (A := p) (n := nr) (c := c2) (ms := rs) rfl HNR.out (HP.out w11 (H0.out.2.trans HC2.out.1.frm (fun _ _ h => h))) (HLW.out w11 (H0.out.2.trans HC2.out.1.frm (fun _ _ h => h))) (fun k hk => HC2.out.1.all.apart hk) (by have := HFW.out; have := HR.out.1; omega) HC2.out.1.low ?_; intro v7 w7 hr7 hg7 hn7; have HG := Lib.hid (HC2.out.1.grow hr7 hg7 hn7); clear hr7 hg7 hn7))
            exact ⟨⟨i + 1, gs2, _, by go_num, rfl, by omega, by have := HG.out; rwa [← HC2.out.2] at this⟩, by simp [intOf]; omega⟩
          · have KY := Lib.hid (HC.out.long HV.out HX3.out p c2 rs HAP.out (by have := HNR.out; omega) HR.out.1 HR.out.2 H00.out hp)
            rw [← HNR.out] at KY
            unfold segP at KY
            simp only [v4] at KY
            clear hp
            go_wp2_with (first
              | (go_at_call 35; (with_reducible refine KY.out.mono ?_); rintro e w11 ⟨rfl, hc2⟩; have HC2 := Lib.hid hc2; clear hc2))
            exact ⟨⟨i + 1, gs', _, by go_num, rfl, by omega, HC2.out.step HIN.out⟩, by simp [intOf]; omega⟩
      · obtain rfl : i = N := by omega
        obtain ⟨gl, hgl⟩ : ∃ gl, gl = gs'.length := ⟨_, rfl⟩
        obtain ⟨FL, hFL⟩ : ∃ FL, FL = gs'.flatten.length := ⟨_, rfl⟩
        obtain ⟨ms, k, hsc⟩ : ∃ ms k, Sg.scanAll junk [] (x + FL) = (ms, k) := ⟨_, _, rfl⟩
        obtain ⟨xn, hxn⟩ : ∃ xn, xn = x + FL := ⟨_, rfl⟩
        obtain ⟨msl, hmsl⟩ : ∃ msl, msl = ms.length := ⟨_, rfl⟩
        obtain ⟨RL, hRL⟩ : ∃ RL, RL = (gs'.flatten ++ ms).length := ⟨_, rfl⟩
        obtain ⟨sd, hsd⟩ : ∃ sd, sd = Sg.lay Sg.crc x gs' ++ junk := ⟨_, rfl⟩
        obtain ⟨sl, hsl⟩ : ∃ sl, sl = sd.length := ⟨_, rfl⟩
        have hfew := HC.out.few HV.out
        have hMj := HJ.out.2.2
        obtain ⟨s1, s2, s3, s4, s5⟩ := scan_lay9 (junk := junk) (ms := ms) (k := k) HC.out.nums.1 HC.out.nums.2 (by rw [← hFL]; exact hsc)
        rw [← hgl, ← hsd] at s1
        rw [← hsd, ← hsl, ← hgl, ← hMj] at s2
        rw [← hmsl, ← hMj] at s3
        rw [← hMj] at s4
        have hFL4 : FL ≤ 4194304 := by omega
        have hRLe : RL = FL + msl := by rw [hRL, List.length_append, ← hFL, ← hmsl]
        have hglb : gl * 512 ≤ 300000000 := HC.out.short HV.out hgl
        have KB := Lib.hid HC.out.blocks
        rw [← hgl] at KB
        unfold segP at KB
        have KNM := Lib.hid (name_calls wr x hx HC.out.tab.tab)
        have KJ : Hid (∀ W, Frm (fun _ => False) wr W → Calls Tryz.prog 39 #[dptr (w2.heap.size + 2), .string (nmOf x), .slice J M jc] W fun e w' => e = .returned .nilIface ∧ JunkAt (fun k => k < w2.heap.size) w2 w' eb L sb x FL av gs'.flatten sd gl) := Lib.hid (fun W hW => by
          have hFW := (H0.out.2.trans (HC.out.keep hW).frm (fun _ _ h => h))
          have := (HC.out.keep hW).junk HV.out J jc junk (reads_frm HJ.out.1 hFW) (by omega) HJ.out.2.1 (fun h0 a e => by
            obtain ⟨a2, e2, h2⟩ := HJ.out.1.2.2 h0
            have h3 := World.block_lt_of_cell? _ _ (h2 0 h0)
            rw [add_blk] at h3
            rw [e] at e2
            rw [Option.some.inj e2]
            exact Nat.lt_of_lt_of_le h3 H0.out.2.size) (by omega)
          rwa [← hFL, ← hsd, ← hgl, ← hMj] at this)
        have KSC : Hid (∀ W, JunkAt (fun k => k < w2.heap.size) w2 W eb L sb x FL av gs'.flatten sd gl → Calls Tryz.prog 41 #[.slice J M jc, .slice none 0 0, .int .u64 (xn : Int)] W fun e w' => ∃ p c2, e = .returned (.tuple #[.slice p msl c2, .int .i64 (k : Int)]) ∧ RecsOwn w' W.heap.size (.slice p msl c2) ms ∧ Frm (fun _ => False) W w') := Lib.hid (fun W hW => by
          have hFW := (H0.out.2.trans hW.frm (fun _ _ h => h))
          have := hW.scan J jc junk (reads_frm HJ.out.1 hFW) (by omega) HJ.out.2.1 (by omega) (by omega)
          rwa [hsc, ← hmsl, ← hMj, ← hxn] at this)
        have KNX : Hid (∀ W, JunkAt (fun k => k < w2.heap.size) w2 W eb L sb x FL av gs'.flatten sd gl → Calls Tryz.prog 42 #[.pointer (some ⟨sb, 0, none⟩)] W fun e w' => e = .returned (.int .u64 (xn : Int)) ∧ w' = W) := Lib.hid (fun W hW => by
          have := hW.next
          rwa [← hxn] at this)
        have HBY : Hid (∀ y, y ∈ sd → 0 ≤ y ∧ y < 256) := Lib.hid (by
          rw [hsd]
          intro y hy
          rcases List.mem_append.1 hy with hy | hy
          · exact lay_byte9 gs' x HC.out.byt y hy
          · exact HJ.out.2.1 y hy)
        have HRB : Hid (∀ r, r ∈ gs'.flatten ++ ms → ∀ y, y ∈ r → 0 ≤ y ∧ y < 256) := Lib.hid (by
          intro r hr y hy
          rcases List.mem_append.1 hr with hr | hr
          · exact HC.out.byt r hr y hy
          · exact HJ.out.2.1 y (s5 r hr y hy))
        have KLI : Hid (∀ W p c p9 c9, RecsAt W p (gs'.flatten ++ ms) → RecsAt W p9 (gs'.flatten ++ ms) → RL ≤ c → RL ≤ c9 → Calls Tryz.prog 37 #[.slice p RL c, .slice p9 RL c9] W fun e w' => e = .returned (.bool true) ∧ Frm (fun _ => False) W w') := Lib.hid (fun W p c p9 c9 q1 q2 q3 q4 => by
          have := lists_calls W p p9 c c9 _ _ q1 q2 (by omega) (by omega) (by omega) (by omega) HRB.out HRB.out
          rwa [decide_eq_true rfl, ← hRL] at this)
        have HS1 := Lib.hid (And.intro s1 (And.intro hsl (And.intro hRL (And.intro hmsl hFL))))
        clear s1 s5 hsd hsl hgl hFL hsc hxn hmsl hRL hMj
        by_cases hwh : M = k * 512
        · have hdw : decide (sl = (gl + k) * 512) = true := decide_eq_true (by omega)
          have hbw : ((M : Int) == (k : Int) * 512) = true := by simp; omega
          have KOP : Hid (∀ (P : Nat → Prop) W v9, JunkAt P w2 W eb L sb x FL v9 (gs'.flatten ++ ms) sd gl → Calls Tryz.prog 36 #[dptr (w2.heap.size + 2), .int .u64 x] W fun e w' => ∃ sb2 p c, e = .returned (.tuple #[.pointer (some ⟨sb2, 0, none⟩), .slice p RL c, .nilIface]) ∧ RL ≤ c ∧ RecsAt w' p (gs'.flatten ++ ms) ∧ RecsRef P w' w2.heap.size v9 (gs'.flatten ++ ms) ∧ (∃ cnt, OpAt w2 w' eb L sb2 x ⟨nmOf x, x + RL, gl + k, true, false⟩ sl cnt 4500000) ∧ Frm (fun _ => False) W w') := Lib.hid (fun P W v9 hW => by
            have := hW.open_ ⟨hs3, by omega⟩ HBY.out _ _ HS1.out.1
            rwa [← HS1.out.2.2.1, ← HS1.out.2.1, hdw] at this)
          have KT : Hid (∀ sb2 W cnt n0, OpAt w2 W eb L sb2 x ⟨nmOf x, x + RL, gl + k, true, false⟩ sl cnt n0 → (Calls Tryz.prog 38 #[.pointer (some ⟨sb2, 0, none⟩)] W fun e w' => e = .returned (.int .i64 ((gl : Int) + (k : Int))) ∧ w' = W) ∧ (Calls Tryz.prog 43 #[.pointer (some ⟨sb2, 0, none⟩)] W fun e w' => e = .returned (.bool true) ∧ w' = W) ∧ Calls Tryz.prog 28 #[dptr (w2.heap.size + 2)] W fun e w' => e = .returned (.int .i64 cnt) ∧ w' = W) := Lib.hid (fun sb2 W cnt n0 hW => ⟨by
            have := hW.blocks
            have e : ((gl + k : Nat) : Int) = (gl : Int) + (k : Int) := by omega
            simp only [e] at this
            exact this, hW.whole, hW.ops⟩)
          have KCW : Hid (∀ sb2 W cnt n0, OpAt w2 W eb L sb2 x ⟨nmOf x, x + RL, gl + k, true, false⟩ sl cnt n0 → Calls Tryz.prog 44 #[.pointer (some ⟨sb2, 0, none⟩)] W fun e w' => e = .returned .nilIface ∧ w' = W) := Lib.hid (fun sb2 W cnt n0 hW => hW.cutW rfl rfl)
          clear hdw hwh s2 hRLe
          go_wp2_with (first
            | (go_at_call 38; (with_reducible refine KB.out.mono ?_); rintro e w5 ⟨rfl, hu⟩; subst hu)
            | (go_at_call 40; (with_reducible refine KNM.out.mono ?_); rintro e w6 ⟨rfl, hf6⟩; have H6 := Lib.hid hf6; clear hf6)
            | (go_at_call 39; (with_reducible refine (KJ.out _ H6.out).mono ?_); rintro e w7 ⟨rfl, hj7⟩; have HJ7 := Lib.hid hj7; have KN7 := Lib.hid (KNX.out _ hj7); have KS7 := Lib.hid (KSC.out _ hj7); clear hj7)
            | (go_at_call 42; (with_reducible refine KN7.out.mono ?_); rintro e w7b ⟨rfl, hu⟩; subst hu)
            | (go_at_call 41; (with_reducible refine KS7.out.mono ?_); rintro e w8 ⟨p8, c8, rfl, ho8, hf8⟩; have HJ8 := Lib.hid (HJ7.out.keep hf8); have HO8 := Lib.hid ho8; clear ho8 hf8)
            | (at_builtin; refine wpl_append_recs rfl _ _ rfl (P := PU (fun k => k < w2.heap.size) w8) (base := w2.heap.size) rfl (HJ8.out.all.mono (fun k hk => Or.inl hk)) (A := p8) (n := msl) (c := c8) (ms := ms) rfl HS1.out.2.2.2.1 HO8.out.recsAt (HO8.out.pu _) (HJ8.out.pu (fun k hk => HJ8.out.all.apart hk)) (by have := HS1.out.2.2.2.1; have := HS1.out.2.2.2.2; omega) HJ8.out.frm.size ?_; intro v9 w9 hr9 hg9 hn9; have HJ9 := Lib.hid (HJ8.out.grow hr9 hg9 hn9); obtain ⟨p9, c9, e9, hc9⟩ := hr9.form; rw [← HS1.out.2.2.1] at e9 hc9; subst e9; clear hr9 hg9 hn9)
            | (go_at_call 36; (with_reducible refine (KOP.out _ _ _ HJ9.out).mono ?_); rintro e w10 ⟨sb2, p10, c10, rfl, hc10, hra10, hrr10, ⟨cnt, hop10⟩, hf10⟩; have HOP := Lib.hid hop10; have KL := Lib.hid (KLI.out w10 p10 c10 p9 c9 hra10 hrr10.at_ hc10 hc9); clear hra10 hrr10 hop10 hf10)
            | (go_at_call 37; (with_reducible refine KL.out.mono ?_); rintro e w11 ⟨rfl, hf11⟩; have HOP2 := Lib.hid (HOP.out.keep hf11); have KT2 := Lib.hid (KT.out _ _ _ _ HOP2.out); have hcnt : cnt ≤ 4500000 := HOP2.out.few; clear hf11)
            | (go_at_call 38; (with_reducible refine KT2.out.1.mono ?_); rintro e u1 ⟨rfl, hu⟩; subst hu)
            | (go_at_call 43; (with_reducible refine KT2.out.2.1.mono ?_); rintro e u1 ⟨rfl, hu⟩; subst hu)
            | (go_at_call 28; (with_reducible refine KT2.out.2.2.mono ?_); rintro e u1 ⟨rfl, hu⟩; subst hu)
            | (go_at_call 44; (with_reducible refine (KCW.out _ _ _ _ HOP2.out).mono ?_); rintro e u1 ⟨rfl, hu⟩; subst hu))
          go_ret
          exact ⟨rfl, H0.out.2.trans HOP2.out.frm (fun _ _ h => h)⟩
        · have hdw : decide (sl = (gl + k) * 512) = false := decide_eq_false (by omega)
          have hbw : ((M : Int) == (k : Int) * 512) = false := by simp; omega
          have KOP : Hid (∀ (P : Nat → Prop) W v9, JunkAt P w2 W eb L sb x FL v9 (gs'.flatten ++ ms) sd gl → Calls Tryz.prog 36 #[dptr (w2.heap.size + 2), .int .u64 x] W fun e w' => ∃ sb2 p c, e = .returned (.tuple #[.pointer (some ⟨sb2, 0, none⟩), .slice p RL c, .nilIface]) ∧ RL ≤ c ∧ RecsAt w' p (gs'.flatten ++ ms) ∧ RecsRef P w' w2.heap.size v9 (gs'.flatten ++ ms) ∧ (∃ cnt, OpAt w2 w' eb L sb2 x ⟨nmOf x, x + RL, gl + k, false, false⟩ sl cnt 4500000) ∧ Frm (fun _ => False) W w') := Lib.hid (fun P W v9 hW => by
            have := hW.open_ ⟨hs3, by omega⟩ HBY.out _ _ HS1.out.1
            rwa [← HS1.out.2.2.1, ← HS1.out.2.1, hdw] at this)
          have KT : Hid (∀ sb2 W cnt n0, OpAt w2 W eb L sb2 x ⟨nmOf x, x + RL, gl + k, false, false⟩ sl cnt n0 → (Calls Tryz.prog 38 #[.pointer (some ⟨sb2, 0, none⟩)] W fun e w' => e = .returned (.int .i64 ((gl : Int) + (k : Int))) ∧ w' = W) ∧ (Calls Tryz.prog 43 #[.pointer (some ⟨sb2, 0, none⟩)] W fun e w' => e = .returned (.bool false) ∧ w' = W) ∧ Calls Tryz.prog 28 #[dptr (w2.heap.size + 2)] W fun e w' => e = .returned (.int .i64 cnt) ∧ w' = W) := Lib.hid (fun sb2 W cnt n0 hW => ⟨by
            have := hW.blocks
            have e : ((gl + k : Nat) : Int) = (gl : Int) + (k : Int) := by omega
            simp only [e] at this
            exact this, hW.whole, hW.ops⟩)
          have hRL8 : RL ≤ 8388608 := by omega
          obtain ⟨Z, hZ⟩ : ∃ Z, Z = (gl + k) * 512 := ⟨_, rfl⟩
          have hZb : ((Z : Int) == ((gl : Int) + (k : Int)) * 512) = true := by simp; omega
          have hZm : Z ≤ 305000000 := by omega
          have KRD : Hid (∀ sb2 W cnt n0, OpAt w2 W eb L sb2 x ⟨nmOf x, x + RL, gl + k, true, false⟩ ((gl + k) * 512) cnt n0 → (Calls Tryz.prog 45 #[dptr (w2.heap.size + 2), .string (nmOf x)] W fun e w' => ∃ p c q cq, e = .returned (.tuple #[.slice p Z c, .slice q 0 cq, .nilIface]) ∧ Frm (fun _ => False) W w') ∧ Calls Tryz.prog 38 #[.pointer (some ⟨sb2, 0, none⟩)] W fun e w' => e = .returned (.int .i64 ((gl : Int) + (k : Int))) ∧ w' = W) := Lib.hid (fun sb2 W cnt n0 hW => ⟨by
            have := hW.read
            rwa [← hZ] at this, by
            have := hW.blocks
            have e : ((gl + k : Nat) : Int) = (gl : Int) + (k : Int) := by omega
            simp only [e] at this
            exact this⟩)
          have KAX : Hid (∀ sb2 W cnt, OpAt w2 W eb L sb2 x ⟨nmOf x, x + RL, gl + k, true, false⟩ ((gl + k) * 512) cnt 4500001 → ∀ A, RecsAt W A [[120]] → Calls Tryz.prog 35 #[.pointer (some ⟨sb2, 0, none⟩), .slice A 1 1] W fun e w' => e = .returned .nilIface ∧ (Calls Tryz.prog 42 #[.pointer (some ⟨sb2, 0, none⟩)] w' fun e w'' => e = .returned (.int .u64 ((x : Int) + (RL : Int) + 1)) ∧ w'' = w') ∧ Frm (fun _ => False) w2 w') := Lib.hid (fun sb2 W cnt hW A hr => by
            have := hW.append1 rfl rfl (Nat.le_refl _) (by decide) A 1 hr (Nat.le_refl _) ⟨by show 1 ≤ x + RL; omega, by show x + RL ≤ _; omega⟩
            have e : ((x + RL + 1 : Nat) : Int) = (x : Int) + (RL : Int) + 1 := by omega
            simp only [e] at this
            exact this)
          have HKS : Hid ((gl + k) * 512 ≤ sl) := Lib.hid (by omega)
          have KC2 : Hid (∀ sb2 W cnt, OpAt w2 W eb L sb2 x ⟨nmOf x, x + RL, gl + k, true, false⟩ ((gl + k) * 512) (cnt + 1) 4500001 → (Calls Tryz.prog 44 #[.pointer (some ⟨sb2, 0, none⟩)] W fun e w' => e = .returned .nilIface ∧ w' = W) ∧ (Calls Tryz.prog 43 #[.pointer (some ⟨sb2, 0, none⟩)] W fun e w' => e = .returned (.bool true) ∧ w' = W) ∧ (Calls Tryz.prog 28 #[dptr (w2.heap.size + 2)] W fun e w' => e = .returned (.int .i64 (IntKind.i64.wrap ((cnt : Int) + 1))) ∧ w' = W) ∧ W.cell? ⟨0, 0, none⟩ = some (.iface 320 (.pointer (some (eb 13))))) := Lib.hid (fun sb2 W cnt hW => ⟨hW.cutW rfl rfl, hW.whole, by
            have h1 := hW.few
            have e : IntKind.i64.wrap ((cnt : Int) + 1) = ((cnt + 1 : Nat) : Int) := by rw [IntKind.wrap_i64]; omega
            rw [e]
            exact hW.ops, hW.err 13 (by decide)⟩)
          clear hdw hwh s2 hRLe hZ
          go_upto_region 26 with (first
            | (go_at_call 38; (with_reducible refine KB.out.mono ?_); rintro e w5 ⟨rfl, hu⟩; subst hu)
            | (go_at_call 40; (with_reducible refine KNM.out.mono ?_); rintro e w6 ⟨rfl, hf6⟩; have H6 := Lib.hid hf6; clear hf6)
            | (go_at_call 39; (with_reducible refine (KJ.out _ H6.out).mono ?_); rintro e w7 ⟨rfl, hj7⟩; have HJ7 := Lib.hid hj7; have KN7 := Lib.hid (KNX.out _ hj7); have KS7 := Lib.hid (KSC.out _ hj7); clear hj7)
            | (go_at_call 42; (with_reducible refine KN7.out.mono ?_); rintro e w7b ⟨rfl, hu⟩; subst hu)
            | (go_at_call 41; (with_reducible refine KS7.out.mono ?_); rintro e w8 ⟨p8, c8, rfl, ho8, hf8⟩; have HJ8 := Lib.hid (HJ7.out.keep hf8); have HO8 := Lib.hid ho8; clear ho8 hf8)
            | (at_builtin; refine wpl_append_recs rfl _ _ rfl (P := PU (fun k => k < w2.heap.size) w8) (base := w2.heap.size) rfl (HJ8.out.all.mono (fun k hk => Or.inl hk)) (A := p8) (n := msl) (c := c8) (ms := ms) rfl HS1.out.2.2.2.1 HO8.out.recsAt (HO8.out.pu _) (HJ8.out.pu (fun k hk => HJ8.out.all.apart hk)) (by have := HS1.out.2.2.2.1; have := HS1.out.2.2.2.2; omega) HJ8.out.frm.size ?_; intro v9 w9 hr9 hg9 hn9; have HJ9 := Lib.hid (HJ8.out.grow hr9 hg9 hn9); obtain ⟨p9, c9, e9, hc9⟩ := hr9.form; rw [← HS1.out.2.2.1] at e9 hc9; subst e9; clear hr9 hg9 hn9)
            | (go_at_call 36; (with_reducible refine (KOP.out _ _ _ HJ9.out).mono ?_); rintro e w10 ⟨sb2, p10, c10, rfl, hc10, hra10, hrr10, ⟨cnt, hop10⟩, hf10⟩; have HOP := Lib.hid hop10; have KL := Lib.hid (KLI.out w10 p10 c10 p9 c9 hra10 hrr10.at_ hc10 hc9); clear hra10 hrr10 hop10 hf10)
            | (go_at_call 37; (with_reducible refine KL.out.mono ?_); rintro e w11 ⟨rfl, hf11⟩; have HOP2 := Lib.hid (HOP.out.keep hf11); have KT2 := Lib.hid (KT.out _ _ _ _ HOP2.out); have hcnt : cnt ≤ 4500000 := HOP2.out.few; clear hf11)
            | (go_at_call 38; (with_reducible refine KT2.out.1.mono ?_); rintro e u1 ⟨rfl, hu⟩; rw [hu]; clear hu)
            | (go_at_call 43; (with_reducible refine KT2.out.2.1.mono ?_); rintro e u1 ⟨rfl, hu⟩; rw [hu]; clear hu)
            | (go_at_call 28; (with_reducible refine KT2.out.2.2.mono ?_); rintro e u1 ⟨rfl, hu⟩; rw [hu]; clear hu))
          have HOX := HOP2.out
          have KAPS := Lib.hid (HOX.appendSK rfl)
          have KOPS := Lib.hid HOX.opsK
          have KCUT := Lib.hid (HOX.cutK rfl rfl HKS.out (by decide))
          have ZZ := Lib.hid HOX.sickK
          have cvn := HOX.cv 120
          have cvd := HOX.cvD 120
          have heql := neq_self9
          simp only [v13] at KAPS
          unfold segP at KAPS KCUT
          have S0 := Lib.hid (ZZ.out _ (Frm.refl _ _))
          have D0 := Lib.hid (ZZ.out _ (Frm.refl _ _).drew)
          clear HOX
          refine start_ (n := 42) (S := fun w' => w'.cell? ⟨0, 0, none⟩ = some (.iface 320 (.pointer (some (eb 13))))) (ds := []) #[false, false, false, false, false, false, false, false, false, false, false, false, false, false, false, false, false, false, false, false, false, false, false, false, false, false, false, false, false, false, false, false, false, false, false, false, false, false, false, false, false, false] (by kernel_rfl) rfl rfl (D0.out) (fun hHeld => ?_)
          refine pure_ (i := 0) (N := some 131) (v := ?_) (a' := ?_) #[true, false, false, false, false, false, false, false, false, false, false, false, false, false, false, false, false, false, false, false, false, false, false, false, false, false, false, false, false, false, false, false, false, false, false, false, false, false, false, false, false, false] rfl rfl (by kernel_rfl) (fun _ _ _ h => h) (Or.inl ⟨by rfl, ?_⟩) ?_ ?_
          rotate_left
          · intro w'
            go_simp
            with_reducible rfl
          rotate_left
          · simp only [Act.put, List.setIfInBounds_toArray, List.set_cons_zero, List.set_cons_succ, i64_w, i32_w]
            rfl
          refine take_ (i := 5) (N := some 136) (v := ?_) (a' := ?_) #[true, false, false, false, false, true, false, false, false, false, false, false, false, false, false, false, false, false, false, false, false, false, false, false, false, false, false, false, false, false, false, false, false, false, false, false, false, false, false, false, false, false] rfl rfl (by kernel_rfl) (fun _ _ _ h => h) (Or.inl ⟨by rfl, ?_⟩) hHeld ?_ ?_
          rotate_left
          · intro w' s0
            go_simp
            with_reducible rfl
          rotate_left
          · simp only [Act.put, List.setIfInBounds_toArray, List.set_cons_zero, List.set_cons_succ, i64_w, i32_w]
            rfl
          refine one_ (i := 1) (N := some 132) #[true, true, false, false, false, true, false, false, false, false, false, false, false, false, false, false, false, false, false, false, false, false, false, false, false, false, false, false, false, false, false, false, false, false, false, false, false, false, false, false, false, false] rfl rfl (by kernel_rfl) (by decide) (fun K hK => ?_)
          refine value_ (w1 := ?_) (v := ?_) (by rfl) rfl ?_ ?_
          rotate_left 2
          · go_simp
            constructor
            · rfl
            · rfl
          obtain ⟨u1, hu1⟩ : ∃ u, u = (World.alloc w11 (.cells #[.int .u8 120] 5)).drew := ⟨_, rfl⟩
          rw [← hu1]
          have b1 : u1.heap[w11.heap.size]? = some (.cells #[.int .u8 120] 5 (0, 0)) := by rw [hu1]; exact blk_alloc
          have f1 : Frm (fun _ => False) w11 u1 := by rw [hu1]; exact ((Frm.refl _ _).alloc _).drew
          clear hu1
          refine hK.out _ _ ((ZZ.out _ f1)) (fun hHeld => ?_)
          clear hK K
          refine norm_ (a' := ?_) ?_ ?_
          rotate_left
          · show Act.put _ (some 132) _ = _
            simp only [Act.put, List.setIfInBounds_toArray, List.set_cons_zero, List.set_cons_succ, i64_w, i32_w]
            rfl
          refine one_ (i := 2) (N := some 133) #[true, true, true, false, false, true, false, false, false, false, false, false, false, false, false, false, false, false, false, false, false, false, false, false, false, false, false, false, false, false, false, false, false, false, false, false, false, false, false, false, false, false] rfl rfl (by kernel_rfl) (by decide) (fun K hK => ?_)
          obtain ⟨u2, e2, t2, z2, q2⟩ := convMark (W := u1) (n := 1) (c := 1) b1
          refine value_ (w1 := ?_) (v := ?_) (by rfl) rfl ?_ ?_
          rotate_left 2
          · go_simp
            constructor
            · rfl
            · rfl
          have f2 : Frm (fun _ => False) w11 u2 := f1.trans t2 (fun k hk e => by omega)
          clear e2 z2 q2
          refine hK.out _ _ ((ZZ.out _ f2)) (fun hHeld => ?_)
          clear hK K
          refine norm_ (a' := ?_) ?_ ?_
          rotate_left
          · show Act.put _ (some 133) _ = _
            simp only [Act.put, List.setIfInBounds_toArray, List.set_cons_zero, List.set_cons_succ, i64_w, i32_w]
            rfl
          refine one_ (i := 3) (N := some 134) #[true, true, true, true, false, true, false, false, false, false, false, false, false, false, false, false, false, false, false, false, false, false, false, false, false, false, false, false, false, false, false, false, false, false, false, false, false, false, false, false, false, false] rfl rfl (by kernel_rfl) (by decide) (fun K hK => ?_)
          refine value_ (w1 := ?_) (v := ?_) (by rfl) rfl ?_ ?_
          rotate_left 2
          · go_simp
            constructor
            · rfl
            · rfl
          obtain ⟨u3, hu3⟩ : ∃ u, u = World.alloc u2 (.cells #[.slice (some ⟨w11.heap.size, 0, none⟩) 1 1] 40) := ⟨_, rfl⟩
          rw [← hu3]
          have b3 : u3.heap[u2.heap.size]? = some (.cells #[.slice (some ⟨w11.heap.size, 0, none⟩) 1 1] 40 (0, 0)) := by rw [hu3]; exact blk_alloc
          have f3 : Frm (fun _ => False) w11 u3 := by rw [hu3]; exact f2.alloc _
          clear hu3
          refine hK.out _ _ ((ZZ.out _ f3)) (fun hHeld => ?_)
          clear hK K
          refine norm_ (a' := ?_) ?_ ?_
          rotate_left
          · show Act.put _ (some 134) _ = _
            simp only [Act.put, List.setIfInBounds_toArray, List.set_cons_zero, List.set_cons_succ, i64_w, i32_w]
            rfl
          refine one_ (i := 4) (N := some 135) #[true, true, true, true, true, true, false, false, false, false, false, false, false, false, false, false, false, false, false, false, false, false, false, false, false, false, false, false, false, false, false, false, false, false, false, false, false, false, false, false, false, false] rfl rfl (by kernel_rfl) (by decide) (fun K hK => ?_)
          refine goes_ Tryz.func35 (by kernel_rfl) rfl #[.pointer (some ⟨sb2, 0, none⟩), .slice (some ⟨u2.heap.size, 0, none⟩) 1 1] (by rfl) rfl rfl (by simp only [List.map_toArray, List.map_cons, List.map_nil]; rfl) ?_
          with_reducible refine (KAPS.out _ _ _ _ f3).mono ?_
          rintro e u4 ⟨rfl, hu4⟩
          refine ⟨_, rfl, ?_⟩
          subst hu4
          refine hK.out _ _ ((ZZ.out _ f3)) (fun hHeld => ?_)
          clear hK K
          refine norm_ (a' := ?_) ?_ ?_
          rotate_left
          · show Act.put _ (some 135) _ = _
            simp only [Act.put, List.setIfInBounds_toArray, List.set_cons_zero, List.set_cons_succ, i64_w, i32_w]
            rfl
          refine pure_ (i := 6) (N := some 137) (v := ?_) (a' := ?_) #[true, true, true, true, true, true, true, false, false, false, false, false, false, false, false, false, false, false, false, false, false, false, false, false, false, false, false, false, false, false, false, false, false, false, false, false, false, false, false, false, false, false] rfl rfl (by kernel_rfl) (fun _ _ _ h => h) (Or.inl ⟨by rfl, ?_⟩) ?_ ?_
          rotate_left
          · intro w'
            go_simp
            with_reducible rfl
          rotate_left
          · simp only [Act.put, List.setIfInBounds_toArray, List.set_cons_zero, List.set_cons_succ, i64_w, i32_w]
            rfl
          refine pure_ (i := 7) (N := some 138) (v := ?_) (a' := ?_) #[true, true, true, true, true, true, true, true, false, false, false, false, false, false, false, false, false, false, false, false, false, false, false, false, false, false, false, false, false, false, false, false, false, false, false, false, false, false, false, false, false, false] rfl rfl (by kernel_rfl) (fun _ _ _ h => h) (Or.inl ⟨by rfl, ?_⟩) ?_ ?_
          rotate_left
          · intro w'
            go_simp
            with_reducible rfl
          rotate_left
          · simp only [Act.put, List.setIfInBounds_toArray, List.set_cons_zero, List.set_cons_succ, i64_w, i32_w]
            rfl
          refine pure_ (i := 8) (N := some 139) (v := ?_) (a' := ?_) #[true, true, true, true, true, true, true, true, true, false, false, false, false, false, false, false, false, false, false, false, false, false, false, false, false, false, false, false, false, false, false, false, false, false, false, false, false, false, false, false, false, false] rfl rfl (by kernel_rfl) (fun _ _ _ h => h) (Or.inl ⟨by rfl, ?_⟩) ?_ ?_
          rotate_left
          · intro w'
            go_simp
            with_reducible rfl
          rotate_left
          · simp only [Act.put, List.setIfInBounds_toArray, List.set_cons_zero, List.set_cons_succ, i64_w, i32_w]
            rfl
          refine pure_ (i := 10) (N := some 141) (v := ?_) (a' := ?_) #[true, true, true, true, true, true, true, true, true, false, true, false, false, false, false, false, false, false, false, false, false, false, false, false, false, false, false, false, false, false, false, false, false, false, false, false, false, false, false, false, false, false] rfl rfl (by kernel_rfl) (fun _ _ _ h => h) (Or.inl ⟨by rfl, ?_⟩) ?_ ?_
          rotate_left
          · intro w'
            go_simp
            with_reducible rfl
          rotate_left
          · simp only [Act.put, List.setIfInBounds_toArray, List.set_cons_zero, List.set_cons_succ, i64_w, i32_w]
            rfl
          refine one_ (i := 9) (N := some 140) #[true, true, true, true, true, true, true, true, true, true, true, false, false, false, false, false, false, false, false, false, false, false, false, false, false, false, false, false, false, false, false, false, false, false, false, false, false, false, false, false, false, false] rfl rfl (by kernel_rfl) (by decide) (fun K hK => ?_)
          refine goes_ Tryz.func28 (by kernel_rfl) rfl #[dptr (w2.heap.size + 2)] (by rfl) rfl rfl (by simp only [List.map_toArray, List.map_cons, List.map_nil]; rfl) ?_
          with_reducible refine (KOPS.out _ f3).mono ?_
          rintro e u9 ⟨rfl, hu9⟩
          refine ⟨_, rfl, ?_⟩
          subst hu9
          refine hK.out _ _ ((ZZ.out _ f3)) (fun hHeld => ?_)
          clear hK K
          refine norm_ (a' := ?_) ?_ ?_
          rotate_left
          · show Act.put _ (some 140) _ = _
            simp only [Act.put, List.setIfInBounds_toArray, List.set_cons_zero, List.set_cons_succ, i64_w, i32_w]
            rfl
          refine pure_ (i := 11) (N := some 142) (v := ?_) (a' := ?_) #[true, true, true, true, true, true, true, true, true, true, true, true, false, false, false, false, false, false, false, false, false, false, false, false, false, false, false, false, false, false, false, false, false, false, false, false, false, false, false, false, false, false] rfl rfl (by kernel_rfl) (fun _ _ _ h => h) (Or.inl ⟨by rfl, ?_⟩) ?_ ?_
          rotate_left
          · intro w'
            go_simp
            with_reducible rfl
          rotate_left
          · simp only [Act.put, List.setIfInBounds_toArray, List.set_cons_zero, List.set_cons_succ, i64_w, i32_w]
            rfl
          refine pure_ (i := 12) (N := some 143) (v := ?_) (a' := ?_) #[true, true, true, true, true, true, true, true, true, true, true, true, true, false, false, false, false, false, false, false, false, false, false, false, false, false, false, false, false, false, false, false, false, false, false, false, false, false, false, false, false, false] rfl rfl (by kernel_rfl) (fun _ _ _ h => h) (Or.inl ⟨by rfl, ?_⟩) ?_ ?_
          rotate_left
          · intro w'
            go_simp
            with_reducible rfl
          rotate_left
          · simp only [Act.put, List.setIfInBounds_toArray, List.set_cons_zero, List.set_cons_succ, i64_w, i32_w]
            rfl
          refine pure_ (i := 13) (N := some 144) (v := ?_) (a' := ?_) #[true, true, true, true, true, true, true, true, true, true, true, true, true, true, false, false, false, false, false, false, false, false, false, false, false, false, false, false, false, false, false, false, false, false, false, false, false, false, false, false, false, false] rfl rfl (by kernel_rfl) (fun _ _ _ h => h) (Or.inl ⟨by rfl, ?_⟩) ?_ ?_
          rotate_left
          · intro w'
            go_simp
            with_reducible rfl
          rotate_left
          · simp only [Act.put, List.setIfInBounds_toArray, List.set_cons_zero, List.set_cons_succ, i64_w, i32_w]
            rfl
          refine pure_ (i := 14) (N := some 145) (v := ?_) (a' := ?_) #[true, true, true, true, true, true, true, true, true, true, true, true, true, true, true, false, false, false, false, false, false, false, false, false, false, false, false, false, false, false, false, false, false, false, false, false, false, false, false, false, false, false] rfl rfl (by kernel_rfl) (fun _ _ _ h => h) (Or.inl ⟨by rfl, ?_⟩) ?_ ?_
          rotate_left
          · intro w'
            go_simp
            with_reducible rfl
          rotate_left
          · simp only [Act.put, List.setIfInBounds_toArray, List.set_cons_zero, List.set_cons_succ, i64_w, i32_w]
            rfl
          refine one_ (i := 15) (N := some 146) #[true, true, true, true, true, true, true, true, true, true, true, true, true, true, true, true, false, false, false, false, false, false, false, false, false, false, false, false, false, false, false, false, false, false, false, false, false, false, false, false, false, false] rfl rfl (by kernel_rfl) (by decide) (fun K hK => ?_)
          refine goes_ Tryz.func44 (by kernel_rfl) rfl #[.pointer (some ⟨sb2, 0, none⟩)] (by rfl) rfl rfl (by simp only [List.map_toArray, List.map_cons, List.map_nil]; rfl) ?_
          with_reducible refine (KCUT.out _ f3).mono ?_
          rintro e u15 ⟨rfl, hx15⟩
          refine ⟨_, rfl, ?_⟩
          refine hK.out _ _ ((KC2.out _ _ _ hx15).2.2.2) (fun hHeld => ?_)
          clear hK K
          refine norm_ (a' := ?_) ?_ ?_
          rotate_left
          · show Act.put _ (some 146) _ = _
            simp only [Act.put, List.setIfInBounds_toArray, List.set_cons_zero, List.set_cons_succ, i64_w, i32_w]
            rfl
          refine pure_ (i := 16) (N := some 147) (v := ?_) (a' := ?_) #[true, true, true, true, true, true, true, true, true, true, true, true, true, true, true, true, true, false, false, false, false, false, false, false, false, false, false, false, false, false, false, false, false, false, false, false, false, false, false, false, false, false] rfl rfl (by kernel_rfl) (fun _ _ _ h => h) (Or.inl ⟨by rfl, ?_⟩) ?_ ?_
          rotate_left
          · intro w'
            go_simp
            with_reducible rfl
          rotate_left
          · simp only [Act.put, List.setIfInBounds_toArray, List.set_cons_zero, List.set_cons_succ, i64_w, i32_w]
            rfl
          refine pure_ (i := 17) (N := some 148) (v := ?_) (a' := ?_) #[true, true, true, true, true, true, true, true, true, true, true, true, true, true, true, true, true, true, false, false, false, false, false, false, false, false, false, false, false, false, false, false, false, false, false, false, false, false, false, false, false, false] rfl rfl (by kernel_rfl) (fun _ _ _ h => h) (Or.inl ⟨by rfl, ?_⟩) ?_ ?_
          rotate_left
          · intro w'
            go_simp
            with_reducible rfl
          rotate_left
          · simp only [Act.put, List.setIfInBounds_toArray, List.set_cons_zero, List.set_cons_succ, i64_w, i32_w]
            rfl
          refine pure_ (i := 18) (N := some 149) (v := ?_) (a' := ?_) #[true, true, true, true, true, true, true, true, true, true, true, true, true, true, true, true, true, true, true, false, false, false, false, false, false, false, false, false, false, false, false, false, false, false, false, false, false, false, false, false, false, false] rfl rfl (by kernel_rfl) (fun _ _ _ h => h) (Or.inl ⟨by rfl, ?_⟩) ?_ ?_
          rotate_left
          · intro w'
            go_simp
            with_reducible rfl
          rotate_left
          · simp only [Act.put, List.setIfInBounds_toArray, List.set_cons_zero, List.set_cons_succ, i64_w, i32_w]
            rfl
          refine pure_ (i := 19) (N := some 150) (v := ?_) (a' := ?_) #[true, true, true, true, true, true, true, true, true, true, true, true, true, true, true, true, true, true, true, true, false, false, false, false, false, false, false, false, false, false, false, false, false, false, false, false, false, false, false, false, false, false] rfl rfl (by kernel_rfl) (fun _ _ _ h => h) (Or.inl ⟨by rfl, ?_⟩) ?_ ?_
          rotate_left
          · intro w'
            go_simp
            with_reducible rfl
          rotate_left
          · simp only [Act.put, List.setIfInBounds_toArray, List.set_cons_zero, List.set_cons_succ, i64_w, i32_w]
            rfl
          refine pure_ (i := 21) (N := some 152) (v := ?_) (a' := ?_) #[true, true, true, true, true, true, true, true, true, true, true, true, true, true, true, true, true, true, true, true, false, true, false, false, false, false, false, false, false, false, false, false, false, false, false, false, false, false, false, false, false, false] rfl rfl (by kernel_rfl) (fun _ _ _ h => h) (Or.inl ⟨by rfl, ?_⟩) ?_ ?_
          rotate_left
          · intro w'
            go_simp
            with_reducible rfl
          rotate_left
          · simp only [Act.put, List.setIfInBounds_toArray, List.set_cons_zero, List.set_cons_succ, i64_w, i32_w]
            rfl
          refine pure_ (i := 22) (N := some 153) (v := ?_) (a' := ?_) #[true, true, true, true, true, true, true, true, true, true, true, true, true, true, true, true, true, true, true, true, false, true, true, false, false, false, false, false, false, false, false, false, false, false, false, false, false, false, false, false, false, false] rfl rfl (by kernel_rfl) (fun _ _ _ h => h) (Or.inl ⟨by rfl, ?_⟩) ?_ ?_
          rotate_left
          · intro w'
            go_simp
            with_reducible rfl
          rotate_left
          · simp only [Act.put, List.setIfInBounds_toArray, List.set_cons_zero, List.set_cons_succ, i64_w, i32_w]
            rfl
          refine one_ (i := 20) (N := some 151) #[true, true, true, true, true, true, true, true, true, true, true, true, true, true, true, true, true, true, true, true, true, true, true, false, false, false, false, false, false, false, false, false, false, false, false, false, false, false, false, false, false, false] rfl rfl (by kernel_rfl) (by decide) (fun K hK => ?_)
          refine goes_ Tryz.func28 (by kernel_rfl) rfl #[dptr (w2.heap.size + 2)] (by rfl) rfl rfl (by simp only [List.map_toArray, List.map_cons, List.map_nil]; rfl) ?_
          with_reducible refine ((KC2.out _ _ _ hx15).2.2.1).mono ?_
          rintro e u20 ⟨rfl, hu20⟩
          refine ⟨_, rfl, ?_⟩
          subst hu20
          refine hK.out _ _ ((KC2.out _ _ _ hx15).2.2.2) (fun hHeld => ?_)
          clear hK K
          refine norm_ (a' := ?_) ?_ ?_
          rotate_left
          · show Act.put _ (some 151) _ = _
            simp only [Act.put, List.setIfInBounds_toArray, List.set_cons_zero, List.set_cons_succ, i64_w, i32_w]
            rfl
          refine pure_ (i := 23) (N := some 154) (v := ?_) (a' := ?_) #[true, true, true, true, true, true, true, true, true, true, true, true, true, true, true, true, true, true, true, true, true, true, true, true, false, false, false, false, false, false, false, false, false, false, false, false, false, false, false, false, false, false] rfl rfl (by kernel_rfl) (fun _ _ _ h => h) (Or.inl ⟨by rfl, ?_⟩) ?_ ?_
          rotate_left
          · intro w'
            go_simp
            with_reducible rfl
          rotate_left
          · simp only [Act.put, List.setIfInBounds_toArray, List.set_cons_zero, List.set_cons_succ, i64_w, i32_w]
            rfl
          refine pure_ (i := 24) (N := some 155) (v := ?_) (a' := ?_) #[true, true, true, true, true, true, true, true, true, true, true, true, true, true, true, true, true, true, true, true, true, true, true, true, true, false, false, false, false, false, false, false, false, false, false, false, false, false, false, false, false, false] rfl rfl (by kernel_rfl) (fun _ _ _ h => h) (Or.inl ⟨by rfl, ?_⟩) ?_ ?_
          rotate_left
          · intro w'
            go_simp
            with_reducible rfl
          rotate_left
          · simp only [Act.put, List.setIfInBounds_toArray, List.set_cons_zero, List.set_cons_succ, i64_w, i32_w]
            rfl
          refine pure_ (i := 25) (N := some 156) (v := ?_) (a' := ?_) #[true, true, true, true, true, true, true, true, true, true, true, true, true, true, true, true, true, true, true, true, true, true, true, true, true, true, false, false, false, false, false, false, false, false, false, false, false, false, false, false, false, false] rfl rfl (by kernel_rfl) (fun _ _ _ h => h) (Or.inl ⟨by rfl, ?_⟩) ?_ ?_
          rotate_left
          · intro w'
            go_simp
            with_reducible rfl
          rotate_left
          · simp only [Act.put, List.setIfInBounds_toArray, List.set_cons_zero, List.set_cons_succ, i64_w, i32_w]
            rfl
          refine pure_ (i := 26) (N := some 157) (v := ?_) (a' := ?_) #[true, true, true, true, true, true, true, true, true, true, true, true, true, true, true, true, true, true, true, true, true, true, true, true, true, true, true, false, false, false, false, false, false, false, false, false, false, false, false, false, false, false] rfl rfl (by kernel_rfl) (fun _ _ _ h => h) (Or.inl ⟨by rfl, ?_⟩) ?_ ?_
          rotate_left
          · intro w'
            go_simp
            with_reducible rfl
          rotate_left
          · simp only [Act.put, List.setIfInBounds_toArray, List.set_cons_zero, List.set_cons_succ, i64_w, i32_w]
            rfl
          refine one_ (i := 27) (N := some 158) #[true, true, true, true, true, true, true, true, true, true, true, true, true, true, true, true, true, true, true, true, true, true, true, true, true, true, true, true, false, false, false, false, false, false, false, false, false, false, false, false, false, false] rfl rfl (by kernel_rfl) (by decide) (fun K hK => ?_)
          refine goes_ Tryz.func43 (by kernel_rfl) rfl #[.pointer (some ⟨sb2, 0, none⟩)] (by rfl) rfl rfl (by simp only [List.map_toArray, List.map_cons, List.map_nil]; rfl) ?_
          with_reducible refine ((KC2.out _ _ _ hx15).2.1).mono ?_
          rintro e u27 ⟨rfl, hu27⟩
          refine ⟨_, rfl, ?_⟩
          subst hu27
          refine hK.out _ _ ((KC2.out _ _ _ hx15).2.2.2) (fun hHeld => ?_)
          clear hK K
          refine norm_ (a' := ?_) ?_ ?_
          rotate_left
          · show Act.put _ (some 158) _ = _
            simp only [Act.put, List.setIfInBounds_toArray, List.set_cons_zero, List.set_cons_succ, i64_w, i32_w]
            rfl
          refine pure_ (i := 28) (N := some 159) (v := ?_) (a' := ?_) #[true, true, true, true, true, true, true, true, true, true, true, true, true, true, true, true, true, true, true, true, true, true, true, true, true, true, true, true, true, false, false, false, false, false, false, false, false, false, false, false, false, false] rfl rfl (by kernel_rfl) (fun _ _ _ h => h) (Or.inl ⟨by rfl, ?_⟩) ?_ ?_
          rotate_left
          · intro w'
            go_simp
            with_reducible rfl
          rotate_left
          · simp only [Act.put, List.setIfInBounds_toArray, List.set_cons_zero, List.set_cons_succ, i64_w, i32_w]
            rfl
          refine pure_ (i := 29) (N := some 160) (v := ?_) (a' := ?_) #[true, true, true, true, true, true, true, true, true, true, true, true, true, true, true, true, true, true, true, true, true, true, true, true, true, true, true, true, true, true, false, false, false, false, false, false, false, false, false, false, false, false] rfl rfl (by kernel_rfl) (fun _ _ _ h => h) (Or.inl ⟨by rfl, ?_⟩) ?_ ?_
          rotate_left
          · intro w'
            go_simp
            with_reducible rfl
          rotate_left
          · simp only [Act.put, List.setIfInBounds_toArray, List.set_cons_zero, List.set_cons_succ, i64_w, i32_w]
            rfl
          refine pure_ (i := 30) (N := some 161) (v := ?_) (a' := ?_) #[true, true, true, true, true, true, true, true, true, true, true, true, true, true, true, true, true, true, true, true, true, true, true, true, true, true, true, true, true, true, true, false, false, false, false, false, false, false, false, false, false, false] rfl rfl (by kernel_rfl) (fun _ _ _ h => h) (Or.inl ⟨by rfl, ?_⟩) ?_ ?_
          rotate_left
          · intro w'
            go_simp
            with_reducible rfl
          rotate_left
          · simp only [Act.put, List.setIfInBounds_toArray, List.set_cons_zero, List.set_cons_succ, i64_w, i32_w]
            rfl
          refine pure_ (i := 31) (N := some 162) (v := ?_) (a' := ?_) #[true, true, true, true, true, true, true, true, true, true, true, true, true, true, true, true, true, true, true, true, true, true, true, true, true, true, true, true, true, true, true, true, false, false, false, false, false, false, false, false, false, false] rfl rfl (by kernel_rfl) (fun _ _ _ h => h) (Or.inl ⟨by rfl, ?_⟩) ?_ ?_
          rotate_left
          · intro w'
            go_simp
            with_reducible rfl
          rotate_left
          · simp only [Act.put, List.setIfInBounds_toArray, List.set_cons_zero, List.set_cons_succ, i64_w, i32_w]
            rfl
          refine one_ (i := 32) (N := some 163) #[true, true, true, true, true, true, true, true, true, true, true, true, true, true, true, true, true, true, true, true, true, true, true, true, true, true, true, true, true, true, true, true, true, false, false, false, false, false, false, false, false, false] rfl rfl (by kernel_rfl) (by decide) (fun K hK => ?_)
          refine goes_ Tryz.func44 (by kernel_rfl) rfl #[.pointer (some ⟨sb2, 0, none⟩)] (by rfl) rfl rfl (by simp only [List.map_toArray, List.map_cons, List.map_nil]; rfl) ?_
          with_reducible refine ((KC2.out _ _ _ hx15).1).mono ?_
          rintro e u32 ⟨rfl, hu32⟩
          refine ⟨_, rfl, ?_⟩
          subst hu32
          refine hK.out _ _ ((KC2.out _ _ _ hx15).2.2.2) (fun hHeld => ?_)
          clear hK K
          refine norm_ (a' := ?_) ?_ ?_
          rotate_left
          · show Act.put _ (some 163) _ = _
            simp only [Act.put, List.setIfInBounds_toArray, List.set_cons_zero, List.set_cons_succ, i64_w, i32_w]
            rfl
          refine pure_ (i := 33) (N := some 164) (v := ?_) (a' := ?_) #[true, true, true, true, true, true, true, true, true, true, true, true, true, true, true, true, true, true, true, true, true, true, true, true, true, true, true, true, true, true, true, true, true, true, false, false, false, false, false, false, false, false] rfl rfl (by kernel_rfl) (fun _ _ _ h => h) (Or.inl ⟨by rfl, ?_⟩) ?_ ?_
          rotate_left
          · intro w'
            go_simp
            with_reducible rfl
          rotate_left
          · simp only [Act.put, List.setIfInBounds_toArray, List.set_cons_zero, List.set_cons_succ, i64_w, i32_w]
            rfl
          refine pure_ (i := 34) (N := some 165) (v := ?_) (a' := ?_) #[true, true, true, true, true, true, true, true, true, true, true, true, true, true, true, true, true, true, true, true, true, true, true, true, true, true, true, true, true, true, true, true, true, true, true, false, false, false, false, false, false, false] rfl rfl (by kernel_rfl) (fun _ _ _ h => h) (Or.inl ⟨by rfl, ?_⟩) ?_ ?_
          rotate_left
          · intro w'
            go_simp
            with_reducible rfl
          rotate_left
          · simp only [Act.put, List.setIfInBounds_toArray, List.set_cons_zero, List.set_cons_succ, i64_w, i32_w]
            rfl
          refine pure_ (i := 35) (N := some 166) (v := ?_) (a' := ?_) #[true, true, true, true, true, true, true, true, true, true, true, true, true, true, true, true, true, true, true, true, true, true, true, true, true, true, true, true, true, true, true, true, true, true, true, true, false, false, false, false, false, false] rfl rfl (by kernel_rfl) (fun _ _ _ h => h) (Or.inl ⟨by rfl, ?_⟩) ?_ ?_
          rotate_left
          · intro w'
            go_simp
            with_reducible rfl
          rotate_left
          · simp only [Act.put, List.setIfInBounds_toArray, List.set_cons_zero, List.set_cons_succ, i64_w, i32_w]
            rfl
          refine pure_ (i := 36) (N := some 167) (v := ?_) (a' := ?_) #[true, true, true, true, true, true, true, true, true, true, true, true, true, true, true, true, true, true, true, true, true, true, true, true, true, true, true, true, true, true, true, true, true, true, true, true, true, false, false, false, false, false] rfl rfl (by kernel_rfl) (fun _ _ _ h => h) (Or.inl ⟨by rfl, ?_⟩) ?_ ?_
          rotate_left
          · intro w'
            go_simp
            with_reducible rfl
          rotate_left
          · simp only [Act.put, List.setIfInBounds_toArray, List.set_cons_zero, List.set_cons_succ, i64_w, i32_w]
            rfl
          refine pure_ (i := 38) (N := some 169) (v := ?_) (a' := ?_) #[true, true, true, true, true, true, true, true, true, true, true, true, true, true, true, true, true, true, true, true, true, true, true, true, true, true, true, true, true, true, true, true, true, true, true, true, true, false, true, false, false, false] rfl rfl (by kernel_rfl) (fun _ _ _ h => h) (Or.inl ⟨by rfl, ?_⟩) ?_ ?_
          rotate_left
          · intro w'
            go_simp
            with_reducible rfl
          rotate_left
          · simp only [Act.put, List.setIfInBounds_toArray, List.set_cons_zero, List.set_cons_succ, i64_w, i32_w]
            rfl
          refine pure_ (i := 39) (N := some 170) (v := ?_) (a' := ?_) #[true, true, true, true, true, true, true, true, true, true, true, true, true, true, true, true, true, true, true, true, true, true, true, true, true, true, true, true, true, true, true, true, true, true, true, true, true, false, true, true, false, false] rfl rfl (by kernel_rfl) (fun _ _ _ h => h) (Or.inl ⟨by rfl, ?_⟩) ?_ ?_
          rotate_left
          · intro w'
            go_simp
            with_reducible rfl
          rotate_left
          · simp only [Act.put, List.setIfInBounds_toArray, List.set_cons_zero, List.set_cons_succ, i64_w, i32_w]
            rfl
          refine one_ (i := 37) (N := some 168) #[true, true, true, true, true, true, true, true, true, true, true, true, true, true, true, true, true, true, true, true, true, true, true, true, true, true, true, true, true, true, true, true, true, true, true, true, true, true, true, true, false, false] rfl rfl (by kernel_rfl) (by decide) (fun K hK => ?_)
          refine goes_ Tryz.func28 (by kernel_rfl) rfl #[dptr (w2.heap.size + 2)] (by rfl) rfl rfl (by simp only [List.map_toArray, List.map_cons, List.map_nil]; rfl) ?_
          with_reducible refine ((KC2.out _ _ _ hx15).2.2.1).mono ?_
          rintro e u37 ⟨rfl, hu37⟩
          refine ⟨_, rfl, ?_⟩
          subst hu37
          refine hK.out _ _ ((KC2.out _ _ _ hx15).2.2.2) (fun hHeld => ?_)
          clear hK K
          refine norm_ (a' := ?_) ?_ ?_
          rotate_left
          · show Act.put _ (some 168) _ = _
            simp only [Act.put, List.setIfInBounds_toArray, List.set_cons_zero, List.set_cons_succ, i64_w, i32_w]
            rfl
          refine pure_ (i := 40) (N := some 171) (v := ?_) (a' := ?_) #[true, true, true, true, true, true, true, true, true, true, true, true, true, true, true, true, true, true, true, true, true, true, true, true, true, true, true, true, true, true, true, true, true, true, true, true, true, true, true, true, true, false] rfl rfl (by kernel_rfl) (fun _ _ _ h => h) (Or.inl ⟨by rfl, ?_⟩) ?_ ?_
          rotate_left
          · intro w'
            go_simp
            with_reducible rfl
          rotate_left
          · simp only [Act.put, List.setIfInBounds_toArray, List.set_cons_zero, List.set_cons_succ, i64_w, i32_w]
            rfl
          refine pure_ (i := 41) (N := some 172) (v := ?_) (a' := ?_) #[true, true, true, true, true, true, true, true, true, true, true, true, true, true, true, true, true, true, true, true, true, true, true, true, true, true, true, true, true, true, true, true, true, true, true, true, true, true, true, true, true, true] rfl rfl (by kernel_rfl) (fun _ _ _ h => h) (Or.inl ⟨by rfl, ?_⟩) ?_ ?_
          rotate_left
          · intro w'
            go_simp
            with_reducible rfl
          rotate_left
          · simp only [Act.put, List.setIfInBounds_toArray, List.set_cons_zero, List.set_cons_succ, i64_w, i32_w]
            rfl
          refine done_ (by kernel_rfl) ?_
          have HX := Lib.hid hx15
          all_goals
            have KNM2 := Lib.hid (name_calls _ x hx HX.out.tab.tab)
            go_upto_region 29 with (first
              | (go_at_call 40; (with_reducible refine KNM2.out.mono ?_); rintro e w20 ⟨rfl, hf20⟩; have HX2 := Lib.hid (HX.out.keep hf20); clear hf20)
              | (go_at_call 45; (with_reducible refine (KRD.out _ _ _ _ HX2.out).1.mono ?_); rintro e w21 ⟨p21, c21, q21, cq21, rfl, hf21⟩; have HX3 := Lib.hid (HX2.out.keep hf21); have KB3 := Lib.hid (KRD.out _ _ _ _ HX3.out).2; clear hf21))
            obtain ⟨W2, E1, g1, z1, q1⟩ := convMark (W := w21.alloc (.cells #[.int .u8 120] 5)) (n := 1) (c := 1) blk_alloc
            have hz1 : W2.heap.size = w21.heap.size + 1 := by rw [z1]; simp
            have fA : Frm (fun _ => False) w21 W2 := ((Frm.refl _ _).alloc _).trans g1 (fun i hi e => by omega)
            have KA1 : Hid (∀ W, W = W2.alloc (.cells #[.slice (some ⟨w21.heap.size, 0, none⟩) 1 1] 40) → Calls Tryz.prog 35 #[.pointer (some ⟨sb2, 0, none⟩), .slice (some ⟨W2.heap.size, 0, none⟩) 1 1] W fun e w' => e = .returned .nilIface ∧ (Calls Tryz.prog 42 #[.pointer (some ⟨sb2, 0, none⟩)] w' fun e w'' => e = .returned (.int .u64 ((x : Int) + (RL : Int) + 1)) ∧ w'' = w') ∧ Frm (fun _ => False) w2 w') := Lib.hid (fun W hW => by
              subst hW
              have fC : Frm (fun _ => False) W2 (W2.alloc (.cells #[.slice (some ⟨w21.heap.size, 0, none⟩) 1 1] 40)) := (Frm.refl _ _).alloc _
              refine KAX.out _ _ _ (HX3.out.keep (fA.trans fC (fun _ _ h => h))) _ (fun j hj => ?_)
              match j, hj with
              | 0, _ =>
                refine ⟨_, _, 1, rfl, by rw [addO]; exact cell_of blk_alloc rfl, by show 1 ≤ 1; decide, reads_mk (by show 1 ≤ _; decide) (fun i hi => ?_) rfl⟩
                rw [fC.cell (by omega) id]
                rw [q1]
                match i, hi with
                | 0, _ => rfl)
            have HW2 := Lib.hid hz1
            clear z1 q1 hz1 fA g1
            go_wp2_with (first
              | (go_at_call 38; (with_reducible refine KB3.out.mono ?_); rintro e u1 ⟨rfl, hu⟩; subst hu)
              | (go_at_call 35; (with_reducible refine (KA1.out _ rfl).mono ?_); rintro e w22 ⟨rfl, hn22, hf22⟩; have KN22 := Lib.hid hn22; have HF22 := Lib.hid hf22; clear hn22 hf22)
              | (go_at_call 42; (with_reducible refine KN22.out.mono ?_); rintro e u1 ⟨rfl, hu⟩; subst hu))
            go_ret
            exact ⟨rfl, H0.out.2.trans HF22.out (fun _ _ h => h)⟩
end Go.Proofs.YtpckkdjdjkjapaaGreatDoor.Dw
