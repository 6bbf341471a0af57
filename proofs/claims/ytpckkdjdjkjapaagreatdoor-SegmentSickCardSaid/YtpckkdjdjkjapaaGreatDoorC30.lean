/- A part of the proof of segmentSick_holds: Lk. No condition. -/
import Derived.Test.YtpckkdjdjkjapaaGreatDoorC29

/- SegmentSick walked. -/
namespace Go.Proofs.YtpckkdjdjkjapaaGreatDoor.Dw
open Go.RowKit Go.ChangeMaps Go.Proofs.YtpckkdjdjkjapaaGreatDoor.Mp Go.Proofs.YtpckkdjdjkjapaaGreatDoor.Dm Go.Proofs.YtpckkdjdjkjapaaGreatDoor.Da Go.Shelf
open Go.Proofs.YtpckkdjdjkjapaaGreatDoor.Sg (SegS packE Over Group heavyN)
open Go.Proofs.YtpckkdjdjkjapaaGreatDoorW.PrintWords (ReadsInt string_of_reads)
set_option linter.unusedVariables false
set_option linter.unusedSimpArgs false
set_option linter.unusedSectionVars false
theorem conv_newD (W : World) (x : Int) : (convert 40 40 (.slice (some ⟨W.heap.size, 0, none⟩) 1 1)).run Tryz.prog ((W.alloc (.cells #[.int .u8 x] 5)).drew) = .ok (.slice (some ⟨W.heap.size, 0, none⟩) 1 1) ((W.alloc (.cells #[.int .u8 x] 5)).drew.freeze ⟨W.heap.size, 1, none⟩ 1) := by
  have hsh : ((W.alloc (.cells #[.int .u8 x] 5)).drew).shape? W.heap.size = some (5, 1) := by
    show (W.alloc (.cells #[.int .u8 x] 5)).shape? W.heap.size = _
    unfold World.shape?; rw [blk_alloc]; rfl
  simp [convert, run_underlying Tryz.underlying40, run_underlying Tryz.underlying5, markStringish, hsh]
theorem err_neq (a : Addr) (W : World) : (binOp .neq 32 (.iface 320 (.pointer (some a))) (.iface 320 (.pointer (some a)))).run Tryz.prog W = .ok (.bool false) W := by
  obtain ⟨i, hi, hcmp⟩ := Option.map_eq_some_iff.1 Go.Proofs.YtpckkdjdjkjapaaGreatDoor.Ei.isComp
  obtain ⟨j, hj, hjs⟩ := Option.map_eq_some_iff.1 Go.Proofs.YtpckkdjdjkjapaaGreatDoor.Ei.isSize
  simp only [binOp]
  simp [Op.equal, Op.maxDepth, run_equalIn_iface_ptr_same (P := Tryz.prog) W 9998 a Tryz.underlying32 Tryz.underlying320 hi hcmp hj]
set_option maxHeartbeats 4000000 in
set_option maxRecDepth 100000 in
theorem law_sick {w : World} {eb : Nat → Addr} {L : List Err} (he : ErrsAt w.heap.size w eb L) (hv : Env w.heap.size w L) (x : Nat) (hx : x < 18446744073709551616) (part : Int) (hpart : -9223372036854775808 ≤ part ∧ part ≤ 9223372036854775807) (A : Option Addr) (c : Nat) (gs : List Group) (hg : GsOk w A c gs) :
    Calls Tryz.prog 6 #[.int .u64 x, .slice A gs.length c, .int .i64 part] w fun e w' => e = .returned (.bool true) ∧ Frm (fun _ => False) w w' := by
  have KA := Lib.hid (awake_calls he hv)
  have KH := Lib.hid (fun W (hW : Frm (fun _ => False) w W) => heavy_ok (⟨hg.at_.frm hW, hg.cap, hg.len⟩ : GsOk W A c gs))
  obtain ⟨N, hN⟩ : ∃ N, N = gs.length := ⟨_, rfl⟩
  have HE := Lib.hid (And.intro he (And.intro hv (And.intro hg hN)))
  rw [← hN] at KH ⊢
  have hcN : N ≤ c := by have := hg.cap; omega
  have hlN : N ≤ 4611686018427387904 := by have := hg.len; omega
  clear he hv hg hN
  obtain ⟨hv1, hv2⟩ := hpart
  have c0 : ((0 : Nat) : Int) = 0 := rfl
  have v6 : errV eb 6 = .iface 320 (.pointer (some (eb 6))) := rfl
  have v4 : errV eb 4 = .iface 320 (.pointer (some (eb 4))) := rfl
  have v13 : errV eb 13 = .iface 320 (.pointer (some (eb 13))) := rfl
  by_cases hskip : 4194304 < heavyN gs ∨ N = 0 ∨ x < 1 ∨ 2305843009213693952 < x
  · by_cases hh : 4194304 < heavyN gs
    · have hs1 : decide (4194304 < heavyN gs) = true := decide_eq_true hh
      simp only [hs1] at KH
      clear hskip hh hs1
      go_enter Tryz.func6, Tryz.ntmps6
      go_wp2_with (first
        | (go_at_call 32; (with_reducible refine KA.out.mono ?_); rintro e w1 ⟨rfl, hf1⟩; have H1 := Lib.hid hf1; clear hf1)
        | (go_at_call 33; (with_reducible refine (KH.out _ H1.out).mono ?_); rintro e w2 ⟨rfl, hf2⟩; have H2 := Lib.hid (H1.out.trans hf2 (fun _ _ h => h)); clear hf2))
      go_ret
      exact ⟨rfl, H2.out⟩
    · have hs1 : decide (4194304 < heavyN gs) = false := decide_eq_false hh
      simp only [hs1] at KH
      have h3 : N = 0 ∨ (¬ N = 0 ∧ x = 0) ∨ (¬ N = 0 ∧ 1 ≤ x ∧ 2305843009213693952 < x) := by omega
      clear hskip hh hs1
      rcases h3 with h3 | ⟨h3, h4⟩ | ⟨h3, h4, h5⟩
      · have hN0 : ((N : Int) == 0) = true := by simp; omega
        clear h3
        go_enter Tryz.func6, Tryz.ntmps6
        go_wp2_with (first
          | (go_at_call 32; (with_reducible refine KA.out.mono ?_); rintro e w1 ⟨rfl, hf1⟩; have H1 := Lib.hid hf1; clear hf1)
          | (go_at_call 33; (with_reducible refine (KH.out _ H1.out).mono ?_); rintro e w2 ⟨rfl, hf2⟩; have H2 := Lib.hid (H1.out.trans hf2 (fun _ _ h => h)); clear hf2))
        go_ret
        exact ⟨rfl, H2.out⟩
      · have hN0 : ((N : Int) == 0) = false := by simp; omega
        have hd1 : decide ((x : Int) < 1) = true := decide_eq_true (by omega)
        go_enter Tryz.func6, Tryz.ntmps6
        go_wp2_with (first
          | (go_at_call 32; (with_reducible refine KA.out.mono ?_); rintro e w1 ⟨rfl, hf1⟩; have H1 := Lib.hid hf1; clear hf1)
          | (go_at_call 33; (with_reducible refine (KH.out _ H1.out).mono ?_); rintro e w2 ⟨rfl, hf2⟩; have H2 := Lib.hid (H1.out.trans hf2 (fun _ _ h => h)); clear hf2))
        go_ret
        exact ⟨rfl, H2.out⟩
      · have hN0 : ((N : Int) == 0) = false := by simp; omega
        have hd1 : decide ((x : Int) < 1) = false := decide_eq_false (by omega)
        have hd2 : decide ((2305843009213693952 : Int) < (x : Int)) = true := decide_eq_true (by omega)
        go_enter Tryz.func6, Tryz.ntmps6
        go_wp2_with (first
          | (go_at_call 32; (with_reducible refine KA.out.mono ?_); rintro e w1 ⟨rfl, hf1⟩; have H1 := Lib.hid hf1; clear hf1)
          | (go_at_call 33; (with_reducible refine (KH.out _ H1.out).mono ?_); rintro e w2 ⟨rfl, hf2⟩; have H2 := Lib.hid (H1.out.trans hf2 (fun _ _ h => h)); clear hf2))
        go_ret
        exact ⟨rfl, H2.out⟩
  · have hs1 : decide (4194304 < heavyN gs) = false := decide_eq_false (fun h => hskip (Or.inl h))
    have hs2 : ¬ N = 0 := fun h => hskip (Or.inr (Or.inl h))
    have hs3 : 1 ≤ x := by omega
    have hs4 : x ≤ 2305843009213693952 := by omega
    have hN0 : ((N : Int) == 0) = false := by simp; omega
    have hd1 : decide ((x : Int) < 1) = false := decide_eq_false (by omega)
    have hd2 : decide ((2305843009213693952 : Int) < (x : Int)) = false := decide_eq_false (by omega)
    have HV : Hid (heavyN gs ≤ 4194304) := Lib.hid (by omega)
    simp only [hs1] at KH
    clear hskip hs1
    have KC : Hid (∀ W, Frm (fun _ => False) w W → Calls Tryz.prog 34 #[dptr (W.heap.size + 2), .int .u64 x] (wBorn W) fun e w' => ∃ sb, e = .returned (.tuple #[.pointer (some ⟨sb, 0, none⟩), .nilIface]) ∧ ∃ D, SickAt W w' (W.heap.size + 2) eb L sb x D) := Lib.hid (fun W hW => by
      refine (start_calls (HE.out.1.up hW hW.size) (HE.out.2.1.up hW hW.size) x ⟨hs3, by omega⟩).mono ?_
      rintro e w' ⟨sb, rfl, h1, lab, D, h2, h3, h4⟩
      exact ⟨sb, rfl, D, ⟨lab, h2.seg⟩, h2.quiet.off, h4⟩)
    go_enter Tryz.func6, Tryz.ntmps6
    go_wp2_with (first
      | (go_at_call 32; (with_reducible refine KA.out.mono ?_); rintro e w1 ⟨rfl, hf1⟩; have H1 := Lib.hid hf1; clear hf1)
      | (go_at_call 33; (with_reducible refine (KH.out _ H1.out).mono ?_); rintro e w2 ⟨rfl, hf2⟩; have H2 := Lib.hid (H1.out.trans hf2 (fun _ _ h => h)); clear hf2)
      | (go_at_call 10; (with_reducible refine (new_calls _).mono ?_); rintro e w3 ⟨rfl, rfl⟩)
      | (go_at_call 34; (with_reducible refine (KC.out _ H2.out).mono ?_); rintro e w4 ⟨sb, rfl, D, hs⟩; have HS := Lib.hid hs; clear hs))
    have H0 := Lib.hid (And.intro HS.out H2.out)
    clear HS KC KA KH
    go_loopw [10, 9] (fun iv ev wr => ∃ i D, iv = .int .i64 (i : Nat) ∧ i ≤ N ∧ SickAt w2 wr (w2.heap.size + 2) eb L sb x D) (fun iv _ _ => N - (intOf iv).toNat)
    case atStart => exact ⟨0, D, rfl, Nat.zero_le _, H0.out.1⟩
    case round =>
      obtain ⟨i, D1, rfl, hi, hsk⟩ := hrel
      have HK := Lib.hid hsk
      clear hsk
      by_cases hlt : i < N
      · obtain ⟨labR, hseg⟩ := HK.out.seg
        have KN := Lib.hid (next_calls hseg)
        have KB := Lib.hid (blocks_calls hseg)
        simp only [c0] at KB KN
        unfold segP at KB KN
        have KM : Hid (∀ X, X = wr.alloc (.cells #[.int .i64 1, .int .i64 part] 85) → Calls Tryz.prog 46 #[dptr (w2.heap.size + 2), .slice (some ⟨wr.heap.size, 0, none⟩) 1 1, .int .i64 0] X fun e w' => e = .returned (.tuple #[]) ∧ SickAt w2 w' (w2.heap.size + 2) eb L sb x (D1.first part) ∧ (D1.first part).off = false) := Lib.hid (fun X hX => by
          have hfX : Frm (fun _ => False) wr X := by rw [hX]; exact (Frm.refl _ _).alloc _
          have hvX : FailsAt X (.slice (some ⟨wr.heap.size, 0, none⟩) 1 1) [(1, part)] := by
            refine ⟨_, 1, rfl, fun j u hu => ⟨_, rfl, ?_⟩⟩
            rw [addO, hX]
            refine cell_of blk_alloc ?_
            rw [Nat.zero_add, ← hu]
            match j with
            | 0 => rfl
            | 1 => rfl
            | j + 2 => rfl
          refine (arm9_calls (hseg.frm hfX) part _ hvX).mono ?_
          rintro e w' ⟨rfl, hn⟩
          obtain ⟨lab', h1, h2, h3⟩ := id hn
          exact ⟨rfl, ⟨⟨lab', h1⟩, (first_armed HK.out.off part).1, SickAt.next (hseg.frm hfX) (HK.out.frm.trans hfX (fun _ _ h => h)) hn⟩, (first_armed HK.out.off part).1⟩)
        obtain ⟨g, o, p, c2, hA, k1, k2, k3, k4, k5, k6⟩ := HE.out.2.2.1.at_ i (by have := HE.out.2.2.2; omega)
        subst hA
        obtain ⟨rs, hrs⟩ : ∃ rs, rs = (gs[i]'(by have := HE.out.2.2.2; omega)).1 := ⟨_, rfl⟩
        obtain ⟨sy, hsy⟩ : ∃ sy, sy = (gs[i]'(by have := HE.out.2.2.2; omega)).2 := ⟨_, rfl⟩
        rw [← hrs] at k1 k3 k4 k5 k6
        rw [← hsy] at k2
        have KG := Lib.hid (fun W (hW : Frm (fun _ => False) w W) => (⟨frmC hW k1, frmC hW k2⟩ : W.cell? ⟨g, o + i * 2, none⟩ = some (.slice p rs.length c2) ∧ W.cell? ⟨g, o + i * 2 + 1, none⟩ = some (.bool sy)))
        have HRS : Hid (rs ∈ gs.map (·.1)) := Lib.hid (by rw [hrs]; exact List.mem_map.2 ⟨_, List.getElem_mem _, rfl⟩)
        have HK6 := Lib.hid (And.intro k5 k6)
        clear k1 k2 hseg hsy hrs k5 k6
        cases sy with
        | true =>
          go_upto_region 23 with (first
            | (go_at_call 42; (with_reducible refine KN.out.mono ?_); rintro e w9 ⟨rfl, rfl⟩)
            | (go_at_call 38; (with_reducible refine KB.out.mono ?_); rintro e w9 ⟨rfl, rfl⟩)
            | (go_at_call 46; (with_reducible refine (KM.out _ rfl).mono ?_); rintro e w10 ⟨rfl, hs10, ho10⟩; have HS10 := Lib.hid hs10; have G10 := KG.out _ ((H0.out.2.trans hs10.frm (fun _ _ h => h))); obtain ⟨j1, j2⟩ := G10; have KY := Lib.hid (hs10.sync part D1 rfl HK.out.off); unfold segP at KY; simp only [v6] at KY; clear hs10 ho10)
            | (go_at_call 47; (with_reducible refine KY.out.mono ?_); rintro e w11 ⟨rfl, D11, hi11⟩; have HI := Lib.hid hi11; have e4 : w11.cell? ⟨1, 0, none⟩ = some (.iface 320 (.pointer (some (eb 4)))) := hi11.err 4 (by decide); have e6 : w11.cell? ⟨2, 0, none⟩ = some (.iface 320 (.pointer (some (eb 6)))) := hi11.err 6 (by decide); have e13 : w11.cell? ⟨0, 0, none⟩ = some (.iface 320 (.pointer (some (eb 13)))) := hi11.err 13 (by decide); have q64 : (binOp .eql 32 (.iface 320 (.pointer (some (eb 6)))) (.iface 320 (.pointer (some (eb 4))))).run Tryz.prog w11 = .ok (.bool false) w11 := hi11.eql (c := 6) (d := 4) (by decide) (by decide); have KOP := Lib.hid hi11.ops; clear hi11)
            | (go_at_call 28; (with_reducible refine KOP.out.mono ?_); rintro e w12 ⟨rfl, rfl⟩))
          have HI0 := HI.out
          have ZZ : Hid (∀ W, Frm (fun _ => False) w12 W → W.cell? ⟨2, 0, none⟩ = some (.iface 320 (.pointer (some (eb 6)))) ∧ W.cell? ⟨0, 0, none⟩ = some (.iface 320 (.pointer (some (eb 13))))) := Lib.hid (fun W hW => ⟨(HI0.step hW).err 6 (by decide), (HI0.step hW).err 13 (by decide)⟩)
          have KAP : Hid (∀ W k c A, Frm (fun _ => False) w12 W → Calls Tryz.prog 35 #[.pointer (some ⟨sb, 0, none⟩), .slice A k c] W fun e w' => e = .returned (.iface 320 (.pointer (some (eb 13)))) ∧ w' = W) := Lib.hid (fun W k c A hW => (HI0.step hW).append A k c)
          have KSY : Hid (∀ W, Frm (fun _ => False) w12 W → Calls Tryz.prog 47 #[.pointer (some ⟨sb, 0, none⟩)] W fun e w' => e = .returned (.iface 320 (.pointer (some (eb 13)))) ∧ w' = W) := Lib.hid (fun W hW => (HI0.step hW).sync)
          have KCU : Hid (∀ W, Frm (fun _ => False) w12 W → Calls Tryz.prog 44 #[.pointer (some ⟨sb, 0, none⟩)] W fun e w' => e = .returned (.iface 320 (.pointer (some (eb 13)))) ∧ w' = W) := Lib.hid (fun W hW => (HI0.step hW).cut)
          have S0 := Lib.hid (ZZ.out w12 (Frm.refl _ _))
          have D0 := Lib.hid (ZZ.out w12.drew (Frm.refl _ _).drew)
          have cvn := conv_new w12 120
          have cvd := conv_newD w12 120
          have heql := err_neq
          go_region_held3 (fun W => W.cell? ⟨2, 0, none⟩ = some (.iface 320 (.pointer (some (eb 6)))) ∧ W.cell? ⟨0, 0, none⟩ = some (.iface 320 (.pointer (some (eb 13)))))
            (first | exact S0.out | exact D0.out | exact ZZ.out _ (frm_freeze ((Frm.refl _ _).alloc _).drew _ _ (Nat.le_refl _)) | exact ZZ.out _ ((frm_freeze ((Frm.refl _ _).alloc _).drew _ _ (Nat.le_refl _)).alloc _) | go_keep)
            (first
              | (go_at_call 35; (with_reducible refine (KAP.out _ _ _ _ ?_).mono ?_); (exact (frm_freeze ((Frm.refl _ _).alloc _).drew _ _ (Nat.le_refl _)).alloc _); rintro e u1 ⟨rfl, hu⟩; subst hu)
              | (go_at_call 47; (with_reducible refine (KSY.out _ ?_).mono ?_); (exact (frm_freeze ((Frm.refl _ _).alloc _).drew _ _ (Nat.le_refl _)).alloc _); rintro e u1 ⟨rfl, hu⟩; subst hu)
              | (go_at_call 44; (with_reducible refine (KCU.out _ ?_).mono ?_); (exact (frm_freeze ((Frm.refl _ _).alloc _).drew _ _ (Nat.le_refl _)).alloc _); rintro e u1 ⟨rfl, hu⟩; subst hu))
          all_goals
            have KI5 := Lib.hid (HI0.step ((frm_freeze ((Frm.refl (fun _ => False) w12).alloc (.cells #[.int .u8 120] 5)).drew ⟨w12.heap.size, 1, none⟩ 1 (Nat.le_refl _)).alloc (.cells #[.slice (some ⟨w12.heap.size, 0, none⟩) 1 1] 40)))
            have KO5 := Lib.hid KI5.out.ops
            have KN5 := Lib.hid KI5.out.next
            have KB5 := Lib.hid KI5.out.blocks
            unfold segP at KN5 KB5
            go_wp2_with (first
              | (go_at_call 28; (with_reducible refine KO5.out.mono ?_); rintro e u1 ⟨rfl, hu⟩; subst hu)
              | (go_at_call 42; (with_reducible refine KN5.out.mono ?_); rintro e u1 ⟨rfl, hu⟩; subst hu)
              | (go_at_call 38; (with_reducible refine KB5.out.mono ?_); rintro e u1 ⟨rfl, hu⟩; subst hu))
            go_ret
            exact ⟨rfl, H0.out.2.trans KI5.out.frm (fun _ _ h => h)⟩
        | false =>
          have HX3 := Lib.hid (And.intro hs3 hs4)
          have HP : Hid (∀ W, Frm (fun _ => False) w W → RecsAt W p rs) := Lib.hid (fun W hW => HK6.out.1.frm hW)
          have HR : Hid (rs.length ≤ 4194304 ∧ ∀ r, r ∈ rs → ∀ x, x ∈ r → 0 ≤ x ∧ x < 256) := Lib.hid ⟨recs_light HRS.out HV.out, fun r hr => (HK6.out.2 r hr).2⟩
          by_cases h0 : rs = []
          · subst h0
            simp only [List.length_nil] at KG k3
            go_wp2_with (first
              | (go_at_call 42; (with_reducible refine KN.out.mono ?_); rintro e w9 ⟨rfl, rfl⟩)
              | (go_at_call 38; (with_reducible refine KB.out.mono ?_); rintro e w9 ⟨rfl, rfl⟩)
              | (go_at_call 46; (with_reducible refine (KM.out _ rfl).mono ?_); rintro e w10 ⟨rfl, hs10, ho10⟩; have HS10 := Lib.hid hs10; have G10 := KG.out _ ((H0.out.2.trans hs10.frm (fun _ _ h => h))); obtain ⟨j1, j2⟩ := G10; have KY := Lib.hid (hs10.idle p c2); unfold segP at KY; clear hs10 ho10)
              | (go_at_call 35; (with_reducible refine KY.out.mono ?_); rintro e w11 ⟨rfl, rfl⟩))
            exact ⟨⟨i + 1, _, by go_num, by omega, HS10.out⟩, by simp [intOf]; omega⟩
          · obtain ⟨nr, hnr⟩ : ∃ nr, nr = rs.length := ⟨_, rfl⟩
            have hnr0 : 0 < nr := by have := List.length_pos_iff.2 h0; omega
            have H00 := Lib.hid h0
            rw [← hnr] at KG k3 k4
            have HNR := Lib.hid hnr
            clear hnr h0
            by_cases hp : (packE x rs).1 = 0
            · have HPK := Lib.hid hp
              clear hp
              go_upto_region 23 with (first
                | (go_at_call 42; (with_reducible refine KN.out.mono ?_); rintro e w9 ⟨rfl, rfl⟩)
                | (go_at_call 38; (with_reducible refine KB.out.mono ?_); rintro e w9 ⟨rfl, rfl⟩)
                | (go_at_call 46; (with_reducible refine (KM.out _ rfl).mono ?_); rintro e w10 ⟨rfl, hs10, ho10⟩; have HS10 := Lib.hid hs10; have G10 := KG.out _ ((H0.out.2.trans hs10.frm (fun _ _ h => h))); obtain ⟨j1, j2⟩ := G10; have KY := Lib.hid (hs10.io part D1 rfl HK.out.off p c2 rs (HP.out _ (H0.out.2.trans hs10.frm (fun _ _ h => h))) (by have := HNR.out; omega) HR.out.1 HR.out.2 H00.out HPK.out); rw [← HNR.out] at KY; unfold segP at KY; simp only [v6] at KY; clear hs10 ho10)
                | (go_at_call 35; (with_reducible refine KY.out.mono ?_); rintro e w11 ⟨rfl, D11, hi11⟩; have HI := Lib.hid hi11; have e4 : w11.cell? ⟨1, 0, none⟩ = some (.iface 320 (.pointer (some (eb 4)))) := hi11.err 4 (by decide); have e6 : w11.cell? ⟨2, 0, none⟩ = some (.iface 320 (.pointer (some (eb 6)))) := hi11.err 6 (by decide); have e13 : w11.cell? ⟨0, 0, none⟩ = some (.iface 320 (.pointer (some (eb 13)))) := hi11.err 13 (by decide); have q64 : (binOp .eql 32 (.iface 320 (.pointer (some (eb 6)))) (.iface 320 (.pointer (some (eb 4))))).run Tryz.prog w11 = .ok (.bool false) w11 := hi11.eql (c := 6) (d := 4) (by decide) (by decide); have KOP := Lib.hid hi11.ops; clear hi11)
                | (go_at_call 28; (with_reducible refine KOP.out.mono ?_); rintro e w12 ⟨rfl, rfl⟩))
              have HI0 := HI.out
              have ZZ : Hid (∀ W, Frm (fun _ => False) w12 W → W.cell? ⟨2, 0, none⟩ = some (.iface 320 (.pointer (some (eb 6)))) ∧ W.cell? ⟨0, 0, none⟩ = some (.iface 320 (.pointer (some (eb 13))))) := Lib.hid (fun W hW => ⟨(HI0.step hW).err 6 (by decide), (HI0.step hW).err 13 (by decide)⟩)
              have KAP : Hid (∀ W k c A, Frm (fun _ => False) w12 W → Calls Tryz.prog 35 #[.pointer (some ⟨sb, 0, none⟩), .slice A k c] W fun e w' => e = .returned (.iface 320 (.pointer (some (eb 13)))) ∧ w' = W) := Lib.hid (fun W k c A hW => (HI0.step hW).append A k c)
              have KSY : Hid (∀ W, Frm (fun _ => False) w12 W → Calls Tryz.prog 47 #[.pointer (some ⟨sb, 0, none⟩)] W fun e w' => e = .returned (.iface 320 (.pointer (some (eb 13)))) ∧ w' = W) := Lib.hid (fun W hW => (HI0.step hW).sync)
              have KCU : Hid (∀ W, Frm (fun _ => False) w12 W → Calls Tryz.prog 44 #[.pointer (some ⟨sb, 0, none⟩)] W fun e w' => e = .returned (.iface 320 (.pointer (some (eb 13)))) ∧ w' = W) := Lib.hid (fun W hW => (HI0.step hW).cut)
              have S0 := Lib.hid (ZZ.out w12 (Frm.refl _ _))
              have D0 := Lib.hid (ZZ.out w12.drew (Frm.refl _ _).drew)
              have cvn := conv_new w12 120
              have cvd := conv_newD w12 120
              have heql := err_neq
              go_region_held3 (fun W => W.cell? ⟨2, 0, none⟩ = some (.iface 320 (.pointer (some (eb 6)))) ∧ W.cell? ⟨0, 0, none⟩ = some (.iface 320 (.pointer (some (eb 13)))))
                (first | exact S0.out | exact D0.out | exact ZZ.out _ (frm_freeze ((Frm.refl _ _).alloc _).drew _ _ (Nat.le_refl _)) | exact ZZ.out _ ((frm_freeze ((Frm.refl _ _).alloc _).drew _ _ (Nat.le_refl _)).alloc _) | go_keep)
                (first
                  | (go_at_call 35; (with_reducible refine (KAP.out _ _ _ _ ?_).mono ?_); (exact (frm_freeze ((Frm.refl _ _).alloc _).drew _ _ (Nat.le_refl _)).alloc _); rintro e u1 ⟨rfl, hu⟩; subst hu)
                  | (go_at_call 47; (with_reducible refine (KSY.out _ ?_).mono ?_); (exact (frm_freeze ((Frm.refl _ _).alloc _).drew _ _ (Nat.le_refl _)).alloc _); rintro e u1 ⟨rfl, hu⟩; subst hu)
                  | (go_at_call 44; (with_reducible refine (KCU.out _ ?_).mono ?_); (exact (frm_freeze ((Frm.refl _ _).alloc _).drew _ _ (Nat.le_refl _)).alloc _); rintro e u1 ⟨rfl, hu⟩; subst hu))
              all_goals
                have KI5 := Lib.hid (HI0.step ((frm_freeze ((Frm.refl (fun _ => False) w12).alloc (.cells #[.int .u8 120] 5)).drew ⟨w12.heap.size, 1, none⟩ 1 (Nat.le_refl _)).alloc (.cells #[.slice (some ⟨w12.heap.size, 0, none⟩) 1 1] 40)))
                have KO5 := Lib.hid KI5.out.ops
                have KN5 := Lib.hid KI5.out.next
                have KB5 := Lib.hid KI5.out.blocks
                unfold segP at KN5 KB5
                go_wp2_with (first
                  | (go_at_call 28; (with_reducible refine KO5.out.mono ?_); rintro e u1 ⟨rfl, hu⟩; subst hu)
                  | (go_at_call 42; (with_reducible refine KN5.out.mono ?_); rintro e u1 ⟨rfl, hu⟩; subst hu)
                  | (go_at_call 38; (with_reducible refine KB5.out.mono ?_); rintro e u1 ⟨rfl, hu⟩; subst hu))
                go_ret
                exact ⟨rfl, H0.out.2.trans KI5.out.frm (fun _ _ h => h)⟩
            · have HPK := Lib.hid hp
              clear hp
              go_wp2_with (first
                | (go_at_call 42; (with_reducible refine KN.out.mono ?_); rintro e w9 ⟨rfl, rfl⟩)
                | (go_at_call 38; (with_reducible refine KB.out.mono ?_); rintro e w9 ⟨rfl, rfl⟩)
                | (go_at_call 46; (with_reducible refine (KM.out _ rfl).mono ?_); rintro e w10 ⟨rfl, hs10, ho10⟩; have HS10 := Lib.hid hs10; have G10 := KG.out _ ((H0.out.2.trans hs10.frm (fun _ _ h => h))); obtain ⟨j1, j2⟩ := G10; have KY := Lib.hid (hs10.long HX3.out p c2 rs (HP.out _ (H0.out.2.trans hs10.frm (fun _ _ h => h))) (by have := HNR.out; omega) HR.out.1 HR.out.2 H00.out HPK.out); rw [← HNR.out] at KY; unfold segP at KY; simp only [v4] at KY; clear hs10 ho10)
                | (go_at_call 35; (with_reducible refine KY.out.mono ?_); rintro e w11 ⟨rfl, hs11⟩; have HS11 := Lib.hid hs11; have e4 : w11.cell? ⟨1, 0, none⟩ = some (.iface 320 (.pointer (some (eb 4)))) := hs11.err 4 (by decide); have q44 : (binOp .eql 32 (.iface 320 (.pointer (some (eb 4)))) (.iface 320 (.pointer (some (eb 4))))).run Tryz.prog w11 = .ok (.bool true) w11 := hs11.eql (c := 4) (d := 4) (by decide) (by decide); clear hs11))
              exact ⟨⟨i + 1, _, by go_num, by omega, HS11.out⟩, by simp [intOf]; omega⟩
      · obtain rfl : i = N := by omega
        go_wp2
        go_ret
        exact ⟨rfl, H0.out.2.trans HK.out.frm (fun _ _ h => h)⟩
end Go.Proofs.YtpckkdjdjkjapaaGreatDoor.Dw
