/- A part of the proof of segmentSick_holds: Lk. No condition. -/
import Derived.Test.YtpckkdjdjkjapaaGreatDoorC29

/- SegmentSick walked. -/
namespace Go.Proofs.YtpckkdjdjkjapaaGreatDoor.Dw
open Go.RowKit Go.ChangeMaps Go.Proofs.YtpckkdjdjkjapaaGreatDoor.Mp Go.Proofs.YtpckkdjdjkjapaaGreatDoor.Dm Go.Proofs.YtpckkdjdjkjapaaGreatDoor.Da Go.Shelf
open Go.Proofs.YtpckkdjdjkjapaaGreatDoor.Sg (SegS packE Over Group heavyN)
open Go.Proofs.YtpckkdjdjkjapaaGreatDoorW.PrintWords (ReadsInt string_of_reads)
open Go.Proofs.YtpckkdjdjkjapaaGreatDoorW.PrintLast
set_option linter.unusedVariables false
set_option linter.unusedSimpArgs false
set_option linter.unusedSectionVars false
theorem conv_newD (W : World) (x : Int) : (convert 40 40 (.slice (some ⟨W.heap.size, 0, none⟩) 1 1)).run Tryz.prog ((W.alloc (.cells #[.int .u8 x] 5)).drew) = .ok (.slice (some ⟨W.heap.size, 0, none⟩) 1 1) ((W.alloc (.cells #[.int .u8 x] 5)).drew.freeze ⟨W.heap.size, 1, none⟩ 1) := by
  have hsh : ((W.alloc (.cells #[.int .u8 x] 5)).drew).shape? W.heap.size = some (5, 1) := by
    show (W.alloc (.cells #[.int .u8 x] 5)).shape? W.heap.size = _
    unfold World.shape?; rw [blk_alloc]; rfl
  simp [convert, run_underlying Tryz.underlying40, run_underlying Tryz.underlying5, markStringish, hsh]
theorem err_neq (a : Addr) (W : World) : (binOp .neq 32 (.iface 320 (.pointer (some a))) (.iface 320 (.pointer (some a)))).run Tryz.prog W = .ok (.bool false) W := by
  obtain ⟨i, hi, hcmp⟩ := Option.map_eq_some_iff.1 Go.Proofs.YtpckkdjdjkjapaaGreatDoor.Ei.isComp
  obtain ⟨j, hj, hjs⟩ := Option.map_eq_some_iff.1 Go.Proofs.YtpckkdjdjkjapaaGreatDoor.Ei.isSize
  simp only [binOp]
  simp [Op.equal, Op.maxDepth, run_equalIn_iface_ptr_same (P := Tryz.prog) W 9998 a Tryz.underlying32 Tryz.underlying320 hi hcmp hj]
set_option maxHeartbeats 4000000 in
set_option maxRecDepth 100000 in
theorem law_sick {w : World} {eb : Nat → Addr} {L : List Err} (he : ErrsAt w.heap.size w eb L) (hv : Env w.heap.size w L) (x : Nat) (hx : x < 18446744073709551616) (part : Int) (hpart : -9223372036854775808 ≤ part ∧ part ≤ 9223372036854775807) (A : Option Addr) (c : Nat) (gs : List Group) (hg : GsOk w A c gs) :
    Calls Tryz.prog 6 #[.int .u64 x, .slice A gs.length c, .int .i64 part] w fun e w' => e = .returned (.bool true) ∧ Frm (fun _ => False) w w' := by
  have KA := Lib.hid (awake_calls he hv)
  have KH := Lib.hid (fun W (hW : Frm (fun _ => False) w W) => heavy_ok (⟨hg.at_.frm hW, hg.cap, hg.len⟩ : GsOk W A c gs))
  obtain ⟨N, hN⟩ : ∃ N, N = gs.length := ⟨_, rfl⟩
  have HE := Lib.hid (And.intro he (And.intro hv (And.intro hg hN)))
  rw [← hN] at KH ⊢
  have hcN : N ≤ c := by have := hg.cap; omega
  have hlN : N ≤ 4611686018427387904 := by have := hg.len; omega
  clear he hv hg hN
  obtain ⟨hv1, hv2⟩ := hpart
  have c0 : ((0 : Nat) : Int) = 0 := rfl
  have v6 : errV eb 6 = .iface 320 (.pointer (some (eb 6))) := rfl
  have v4 : errV eb 4 = .iface 320 (.pointer (some (eb 4))) := rfl
  have v13 : errV eb 13 = .iface 320 (.pointer (some (eb 13))) := rfl
  by_cases hskip : 4194304 < heavyN gs ∨ N = 0 ∨ x < 1 ∨ 2305843009213693952 < x
  · by_cases hh : 4194304 < heavyN gs
    · have hs1 : decide (4194304 < heavyN gs) = true := decide_eq_true hh
      simp only [hs1] at KH
      clear hskip hh hs1
      go_enter Tryz.func6, Tryz.ntmps6
      go_wp2_with (first
        | (go_at_call 32; (with_reducible refine KA.out.mono ?_); rintro e w1 ⟨rfl, hf1⟩; have H1 := Lib.hid hf1; clear hf1)
        | (go_at_call 33; (with_reducible refine (KH.out _ H1.out).mono ?_); rintro e w2 ⟨rfl, hf2⟩; have H2 := Lib.hid (H1.out.trans hf2 (fun _ _ h => h)); clear hf2))
      go_ret
      exact ⟨rfl, H2.out⟩
    · have hs1 : decide (4194304 < heavyN gs) = false := decide_eq_false hh
      simp only [hs1] at KH
      have h3 : N = 0 ∨ (¬ N = 0 ∧ x = 0) ∨ (¬ N = 0 ∧ 1 ≤ x ∧ 2305843009213693952 < x) := by omega
      clear hskip hh hs1
      rcases h3 with h3 | ⟨h3, h4⟩ | ⟨h3, h4, h5⟩
      · have hN0 : ((N : Int) == 0) = true := by simp; omega
        clear h3
        go_enter Tryz.func6, Tryz.ntmps6
        go_wp2_with (first
          | (go_at_call 32; (with_reducible refine KA.out.mono ?_); rintro e w1 ⟨rfl, hf1⟩; have H1 := Lib.hid hf1; clear hf1)
          | (go_at_call 33; (with_reducible refine (KH.out _ H1.out).mono ?_); rintro e w2 ⟨rfl, hf2⟩; have H2 := Lib.hid (H1.out.trans hf2 (fun _ _ h => h)); clear hf2))
        go_ret
        exact ⟨rfl, H2.out⟩
      · have hN0 : ((N : Int) == 0) = false := by simp; omega
        have hd1 : decide ((x : Int) < 1) = true := decide_eq_true (by omega)
        go_enter Tryz.func6, Tryz.ntmps6
        go_wp2_with (first
          | (go_at_call 32; (with_reducible refine KA.out.mono ?_); rintro e w1 ⟨rfl, hf1⟩; have H1 := Lib.hid hf1; clear hf1)
          | (go_at_call 33; (with_reducible refine (KH.out _ H1.out).mono ?_); rintro e w2 ⟨rfl, hf2⟩; have H2 := Lib.hid (H1.out.trans hf2 (fun _ _ h => h)); clear hf2))
        go_ret
        exact ⟨rfl, H2.out⟩
      · have hN0 : ((N : Int) == 0) = false := by simp; omega
        have hd1 : decide ((x : Int) < 1) = false := decide_eq_false (by omega)
        have hd2 : decide ((2305843009213693952 : Int) < (x : Int)) = true := decide_eq_true (by omega)
        go_enter Tryz.func6, Tryz.ntmps6
        go_wp2_with (first
          | (go_at_call 32; (with_reducible refine KA.out.mono ?_); rintro e w1 ⟨rfl, hf1⟩; have H1 := Lib.hid hf1; clear hf1)
          | (go_at_call 33; (with_reducible refine (KH.out _ H1.out).mono ?_); rintro e w2 ⟨rfl, hf2⟩; have H2 := Lib.hid (H1.out.trans hf2 (fun _ _ h => h)); clear hf2))
        go_ret
        exact ⟨rfl, H2.out⟩
  · have hs1 : decide (4194304 < heavyN gs) = false := decide_eq_false (fun h => hskip (Or.inl h))
    have hs2 : ¬ N = 0 := fun h => hskip (Or.inr (Or.inl h))
    have hs3 : 1 ≤ x := by omega
    have hs4 : x ≤ 2305843009213693952 := by omega
    have hN0 : ((N : Int) == 0) = false := by simp; omega
    have hd1 : decide ((x : Int) < 1) = false := decide_eq_false (by omega)
    have hd2 : decide ((2305843009213693952 : Int) < (x : Int)) = false := decide_eq_false (by omega)
    have HV : Hid (heavyN gs ≤ 4194304) := Lib.hid (by omega)
    simp only [hs1] at KH
    clear hskip hs1
    have KC : Hid (∀ W, Frm (fun _ => False) w W → Calls Tryz.prog 34 #[dptr (W.heap.size + 2), .int .u64 x] (wBorn W) fun e w' => ∃ sb, e = .returned (.tuple #[.pointer (some ⟨sb, 0, none⟩), .nilIface]) ∧ ∃ D, SickAt W w' (W.heap.size + 2) eb L sb x D) := Lib.hid (fun W hW => by
      refine (start_calls (HE.out.1.up hW hW.size) (HE.out.2.1.up hW hW.size) x ⟨hs3, by omega⟩).mono ?_
      rintro e w' ⟨sb, rfl, h1, lab, D, h2, h3, h4⟩
      exact ⟨sb, rfl, D, ⟨lab, h2.seg⟩, h2.quiet.off, h4⟩)
    go_enter Tryz.func6, Tryz.ntmps6
    go_wp2_with (first
      | (go_at_call 32; (with_reducible refine KA.out.mono ?_); rintro e w1 ⟨rfl, hf1⟩; have H1 := Lib.hid hf1; clear hf1)
      | (go_at_call 33; (with_reducible refine (KH.out _ H1.out).mono ?_); rintro e w2 ⟨rfl, hf2⟩; have H2 := Lib.hid (H1.out.trans hf2 (fun _ _ h => h)); clear hf2)
      | (go_at_call 10; (with_reducible refine (new_calls _).mono ?_); rintro e w3 ⟨rfl, rfl⟩)
      | (go_at_call 34; (with_reducible refine (KC.out _ H2.out).mono ?_); rintro e w4 ⟨sb, rfl, D, hs⟩; have HS := Lib.hid hs; clear hs))
    have H0 := Lib.hid (And.intro HS.out H2.out)
    clear HS KC KA KH
    go_loopw [10, 9] (fun iv ev wr => ∃ i D, iv = .int .i64 (i : Nat) ∧ i ≤ N ∧ SickAt w2 wr (w2.heap.size + 2) eb L sb x D) (fun iv _ _ => N - (intOf iv).toNat)
    case atStart => exact ⟨0, D, rfl, Nat.zero_le _, H0.out.1⟩
    case round =>
      obtain ⟨i, D1, rfl, hi, hsk⟩ := hrel
      have HK := Lib.hid hsk
      clear hsk
      by_cases hlt : i < N
      · obtain ⟨labR, hseg⟩ := HK.out.seg
        have KN := Lib.hid (next_calls hseg)
        have KB := Lib.hid (blocks_calls hseg)
        simp only [c0] at KB KN
        unfold segP at KB KN
        have KM : Hid (∀ X, X = wr.alloc (.cells #[.int .i64 1, .int .i64 part] 85) → Calls Tryz.prog 46 #[dptr (w2.heap.size + 2), .slice (some ⟨wr.heap.size, 0, none⟩) 1 1, .int .i64 0] X fun e w' => e = .returned (.tuple #[]) ∧ SickAt w2 w' (w2.heap.size + 2) eb L sb x (D1.first part) ∧ (D1.first part).off = false) := Lib.hid (fun X hX => by
          have hfX : Frm (fun _ => False) wr X := by rw [hX]; exact (Frm.refl _ _).alloc _
          have hvX : FailsAt X (.slice (some ⟨wr.heap.size, 0, none⟩) 1 1) [(1, part)] := by
            refine ⟨_, 1, rfl, fun j u hu => ⟨_, rfl, ?_⟩⟩
            rw [addO, hX]
            refine cell_of blk_alloc ?_
            rw [Nat.zero_add, ← hu]
            match j with
            | 0 => rfl
            | 1 => rfl
            | j + 2 => rfl
          refine (arm9_calls (hseg.frm hfX) part _ hvX).mono ?_
          rintro e w' ⟨rfl, hn⟩
          obtain ⟨lab', h1, h2, h3⟩ := id hn
          exact ⟨rfl, ⟨⟨lab', h1⟩, (first_armed HK.out.off part).1, SickAt.next (hseg.frm hfX) (HK.out.frm.trans hfX (fun _ _ h => h)) hn⟩, (first_armed HK.out.off part).1⟩)
        obtain ⟨g, o, p, c2, hA, k1, k2, k3, k4, k5, k6⟩ := HE.out.2.2.1.at_ i (by have := HE.out.2.2.2; omega)
        subst hA
        obtain ⟨rs, hrs⟩ : ∃ rs, rs = (gs[i]'(by have := HE.out.2.2.2; omega)).1 := ⟨_, rfl⟩
        obtain ⟨sy, hsy⟩ : ∃ sy, sy = (gs[i]'(by have := HE.out.2.2.2; omega)).2 := ⟨_, rfl⟩
        rw [← hrs] at k1 k3 k4 k5 k6
        rw [← hsy] at k2
        have KG := Lib.hid (fun W (hW : Frm (fun _ => False) w W) => (⟨frmC hW k1, frmC hW k2⟩ : W.cell? ⟨g, o + i * 2, none⟩ = some (.slice p rs.length c2) ∧ W.cell? ⟨g, o + i * 2 + 1, none⟩ = some (.bool sy)))
        have HRS : Hid (rs ∈ gs.map (·.1)) := Lib.hid (by rw [hrs]; exact List.mem_map.2 ⟨_, List.getElem_mem _, rfl⟩)
        have HK6 := Lib.hid (And.intro k5 k6)
        clear k1 k2 hseg hsy hrs k5 k6
        cases sy with
        | true =>
          go_upto_region 23 with (first
            | (go_at_call 42; (with_reducible refine KN.out.mono ?_); rintro e w9 ⟨rfl, rfl⟩)
            | (go_at_call 38; (with_reducible refine KB.out.mono ?_); rintro e w9 ⟨rfl, rfl⟩)
            | (go_at_call 46; (with_reducible refine (KM.out _ rfl).mono ?_); rintro e w10 ⟨rfl, hs10, ho10⟩; have HS10 := Lib.hid hs10; have G10 := KG.out _ ((H0.out.2.trans hs10.frm (fun _ _ h => h))); obtain ⟨j1, j2⟩ := G10; have KY := Lib.hid (hs10.sync part D1 rfl HK.out.off); unfold segP at KY; simp only [v6] at KY; clear hs10 ho10)
            | (go_at_call 47; (with_reducible refine KY.out.mono ?_); rintro e w11 ⟨rfl, D11, hi11⟩; have HI := Lib.hid hi11; have e4 : w11.cell? ⟨1, 0, none⟩ = some (.iface 320 (.pointer (some (eb 4)))) := hi11.err 4 (by decide); have e6 : w11.cell? ⟨2, 0, none⟩ = some (.iface 320 (.pointer (some (eb 6)))) := hi11.err 6 (by decide); have e13 : w11.cell? ⟨0, 0, none⟩ = some (.iface 320 (.pointer (some (eb 13)))) := hi11.err 13 (by decide); have q64 : (binOp .eql 32 (.iface 320 (.pointer (some (eb 6)))) (.iface 320 (.pointer (some (eb 4))))).run Tryz.prog w11 = .ok (.bool false) w11 := hi11.eql (c := 6) (d := 4) (by decide) (by decide); have KOP := Lib.hid hi11.ops; clear hi11)
            | (go_at_call 28; (with_reducible refine KOP.out.mono ?_); rintro e w12 ⟨rfl, rfl⟩))
          have HI0 := HI.out
          have ZZ : Hid (∀ W, Frm (fun _ => False) w12 W → W.cell? ⟨2, 0, none⟩ = some (.iface 320 (.pointer (some (eb 6)))) ∧ W.cell? ⟨0, 0, none⟩ = some (.iface 320 (.pointer (some (eb 13))))) := Lib.hid (fun W hW => ⟨(HI0.step hW).err 6 (by decide), (HI0.step hW).err 13 (by decide)⟩)
          have KAP : Hid (∀ W k c A, Frm (fun _ => False) w12 W → Calls Tryz.prog 35 #[.pointer (some ⟨sb, 0, none⟩), .slice A k c] W fun e w' => e = .returned (.iface 320 (.pointer (some (eb 13)))) ∧ w' = W) := Lib.hid (fun W k c A hW => (HI0.step hW).append A k c)
          have KSY : Hid (∀ W, Frm (fun _ => False) w12 W → Calls Tryz.prog 47 #[.pointer (some ⟨sb, 0, none⟩)] W fun e w' => e = .returned (.iface 320 (.pointer (some (eb 13)))) ∧ w' = W) := Lib.hid (fun W hW => (HI0.step hW).sync)
          have KCU : Hid (∀ W, Frm (fun _ => False) w12 W → Calls Tryz.prog 44 #[.pointer (some ⟨sb, 0, none⟩)] W fun e w' => e = .returned (.iface 320 (.pointer (some (eb 13)))) ∧ w' = W) := Lib.hid (fun W hW => (HI0.step hW).cut)
          have S0 := Lib.hid (ZZ.out w12 (Frm.refl _ _))
          have D0 := Lib.hid (ZZ.out w12.drew (Frm.refl _ _).drew)
          have cvn := conv_new w12 120
          have cvd := conv_newD w12 120
          have heql := err_neq
          refine start_ (n := 30) (S := fun w' => w'.cell? ⟨2, 0, none⟩ = some (.iface 320 (.pointer (some (eb 6)))) ∧ w'.cell? ⟨0, 0, none⟩ = some (.iface 320 (.pointer (some (eb 13))))) (ds := []) #[false, false, false, false, false, false, false, false, false, false, false, false, false, false, false, false, false, false, false, false, false, false, false, false, false, false, false, false, false, false] (by kernel_rfl) rfl rfl ⟨D0.out.1, D0.out.2⟩ (fun hHeld => ?_)
          refine pure_ (i := 0) (N := some 90) (v := ?_) (a' := ?_) #[true, false, false, false, false, false, false, false, false, false, false, false, false, false, false, false, false, false, false, false, false, false, false, false, false, false, false, false, false, false] rfl rfl (by kernel_rfl) (fun _ _ _ h => h) (Or.inl ⟨by rfl, ?_⟩) ?_ ?_
          rotate_left
          · intro w'
            go_simp
            with_reducible rfl
          rotate_left
          · simp only [Act.put, List.setIfInBounds_toArray, List.set_cons_zero, List.set_cons_succ, i64_w, i32_w]
            rfl
          refine take_ (i := 1) (N := some 91) (v := ?_) (a' := ?_) #[true, true, false, false, false, false, false, false, false, false, false, false, false, false, false, false, false, false, false, false, false, false, false, false, false, false, false, false, false, false] rfl rfl (by kernel_rfl) (fun _ _ _ h => h) (Or.inl ⟨by rfl, ?_⟩) hHeld ?_ ?_
          rotate_left
          · rintro w' ⟨s0, s1⟩
            go_simp
            with_reducible rfl
          rotate_left
          · simp only [Act.put, List.setIfInBounds_toArray, List.set_cons_zero, List.set_cons_succ, i64_w, i32_w]
            rfl
          refine pure_ (i := 2) (N := some 92) (v := ?_) (a' := ?_) #[true, true, true, false, false, false, false, false, false, false, false, false, false, false, false, false, false, false, false, false, false, false, false, false, false, false, false, false, false, false] rfl rfl (by kernel_rfl) (fun _ _ _ h => h) (Or.inl ⟨by rfl, ?_⟩) ?_ ?_
          rotate_left
          · intro w'
            go_simp
            with_reducible rfl
          rotate_left
          · simp only [Act.put, List.setIfInBounds_toArray, List.set_cons_zero, List.set_cons_succ, i64_w, i32_w]
            rfl
          refine pure_ (i := 3) (N := some 93) (v := ?_) (a' := ?_) #[true, true, true, true, false, false, false, false, false, false, false, false, false, false, false, false, false, false, false, false, false, false, false, false, false, false, false, false, false, false] rfl rfl (by kernel_rfl) (fun _ _ _ h => h) (Or.inl ⟨by rfl, ?_⟩) ?_ ?_
          rotate_left
          · intro w'
            go_simp
            with_reducible rfl
          rotate_left
          · simp only [Act.put, List.setIfInBounds_toArray, List.set_cons_zero, List.set_cons_succ, i64_w, i32_w]
            rfl
          refine pure_ (i := 4) (N := some 94) (v := ?_) (a' := ?_) #[true, true, true, true, true, false, false, false, false, false, false, false, false, false, false, false, false, false, false, false, false, false, false, false, false, false, false, false, false, false] rfl rfl (by kernel_rfl) (fun _ _ _ h => h) (Or.inl ⟨by rfl, ?_⟩) ?_ ?_
          rotate_left
          · intro w'
            go_simp
            with_reducible rfl
          rotate_left
          · simp only [Act.put, List.setIfInBounds_toArray, List.set_cons_zero, List.set_cons_succ, i64_w, i32_w]
            rfl
          refine take_ (i := 9) (N := some 99) (v := ?_) (a' := ?_) #[true, true, true, true, true, false, false, false, false, true, false, false, false, false, false, false, false, false, false, false, false, false, false, false, false, false, false, false, false, false] rfl rfl (by kernel_rfl) (fun _ _ _ h => h) (Or.inl ⟨by rfl, ?_⟩) hHeld ?_ ?_
          rotate_left
          · rintro w' ⟨s0, s1⟩
            go_simp
            with_reducible rfl
          rotate_left
          · simp only [Act.put, List.setIfInBounds_toArray, List.set_cons_zero, List.set_cons_succ, i64_w, i32_w]
            rfl
          refine one_ (i := 5) (N := some 95) #[true, true, true, true, true, true, false, false, false, true, false, false, false, false, false, false, false, false, false, false, false, false, false, false, false, false, false, false, false, false] rfl rfl (by kernel_rfl) (by decide) (fun K hK => ?_)
          refine value_ (w1 := ?_) (v := ?_) (by rfl) rfl ?_ ?_
          rotate_left 2
          · go_simp
            constructor
            · rfl
            · rfl
          obtain ⟨u5, hu5⟩ : ∃ u, u = (World.alloc w12 (.cells #[.int .u8 120] 5)).drew := ⟨_, rfl⟩
          rw [← hu5]
          have b5 : u5.heap[w12.heap.size]? = some (.cells #[.int .u8 120] 5 (0, 0)) := by rw [hu5]; exact blk_alloc
          have f5 : Frm (fun _ => False) w12 u5 := by rw [hu5]; exact ((Frm.refl _ _).alloc _).drew
          clear hu5
          refine hK.out _ _ ⟨(ZZ.out _ f5).1, (ZZ.out _ f5).2⟩ (fun hHeld => ?_)
          clear hK K
          refine norm_ (a' := ?_) ?_ ?_
          rotate_left
          · show Act.put _ (some 95) _ = _
            simp only [Act.put, List.setIfInBounds_toArray, List.set_cons_zero, List.set_cons_succ, i64_w, i32_w]
            rfl
          refine one_ (i := 6) (N := some 96) #[true, true, true, true, true, true, true, false, false, true, false, false, false, false, false, false, false, false, false, false, false, false, false, false, false, false, false, false, false, false] rfl rfl (by kernel_rfl) (by decide) (fun K hK => ?_)
          obtain ⟨u6, e6, t6, z6, q6⟩ := convMark (W := u5) (n := 1) (c := 1) b5
          refine value_ (w1 := ?_) (v := ?_) (by rfl) rfl ?_ ?_
          rotate_left 2
          · go_simp
            constructor
            · rfl
            · rfl
          have f6 : Frm (fun _ => False) w12 u6 := f5.trans t6 (fun k hk e => by omega)
          clear e6 z6 q6
          refine hK.out _ _ ⟨(ZZ.out _ f6).1, (ZZ.out _ f6).2⟩ (fun hHeld => ?_)
          clear hK K
          refine norm_ (a' := ?_) ?_ ?_
          rotate_left
          · show Act.put _ (some 96) _ = _
            simp only [Act.put, List.setIfInBounds_toArray, List.set_cons_zero, List.set_cons_succ, i64_w, i32_w]
            rfl
          refine one_ (i := 7) (N := some 97) #[true, true, true, true, true, true, true, true, false, true, false, false, false, false, false, false, false, false, false, false, false, false, false, false, false, false, false, false, false, false] rfl rfl (by kernel_rfl) (by decide) (fun K hK => ?_)
          refine value_ (w1 := ?_) (v := ?_) (by rfl) rfl ?_ ?_
          rotate_left 2
          · go_simp
            constructor
            · rfl
            · rfl
          obtain ⟨u7, hu7⟩ : ∃ u, u = World.alloc u6 (.cells #[.slice (some ⟨w12.heap.size, 0, none⟩) 1 1] 40) := ⟨_, rfl⟩
          rw [← hu7]
          have b7 : u7.heap[u6.heap.size]? = some (.cells #[.slice (some ⟨w12.heap.size, 0, none⟩) 1 1] 40 (0, 0)) := by rw [hu7]; exact blk_alloc
          have f7 : Frm (fun _ => False) w12 u7 := by rw [hu7]; exact f6.alloc _
          clear hu7
          refine hK.out _ _ ⟨(ZZ.out _ f7).1, (ZZ.out _ f7).2⟩ (fun hHeld => ?_)
          clear hK K
          refine norm_ (a' := ?_) ?_ ?_
          rotate_left
          · show Act.put _ (some 97) _ = _
            simp only [Act.put, List.setIfInBounds_toArray, List.set_cons_zero, List.set_cons_succ, i64_w, i32_w]
            rfl
          refine one_ (i := 8) (N := some 98) #[true, true, true, true, true, true, true, true, true, true, false, false, false, false, false, false, false, false, false, false, false, false, false, false, false, false, false, false, false, false] rfl rfl (by kernel_rfl) (by decide) (fun K hK => ?_)
          refine goes_ Tryz.func35 (by kernel_rfl) rfl #[.pointer (some ⟨sb, 0, none⟩), .slice (some ⟨u6.heap.size, 0, none⟩) 1 1] (by rfl) rfl rfl (by simp only [List.map_toArray, List.map_cons, List.map_nil]; rfl) ?_
          with_reducible refine (KAP.out _ _ _ _ f7).mono ?_
          rintro e u8 ⟨rfl, hu8⟩
          refine ⟨_, rfl, ?_⟩
          subst hu8
          refine hK.out _ _ ⟨(ZZ.out _ f7).1, (ZZ.out _ f7).2⟩ (fun hHeld => ?_)
          clear hK K
          refine norm_ (a' := ?_) ?_ ?_
          rotate_left
          · show Act.put _ (some 98) _ = _
            simp only [Act.put, List.setIfInBounds_toArray, List.set_cons_zero, List.set_cons_succ, i64_w, i32_w]
            rfl
          refine pure_ (i := 10) (N := some 100) (v := ?_) (a' := ?_) #[true, true, true, true, true, true, true, true, true, true, true, false, false, false, false, false, false, false, false, false, false, false, false, false, false, false, false, false, false, false] rfl rfl (by kernel_rfl) (fun _ _ _ h => h) (Or.inl ⟨by rfl, ?_⟩) ?_ ?_
          rotate_left
          · intro w'
            go_simp
            with_reducible rfl
          rotate_left
          · simp only [Act.put, List.setIfInBounds_toArray, List.set_cons_zero, List.set_cons_succ, i64_w, i32_w]
            rfl
          refine pure_ (i := 11) (N := some 101) (v := ?_) (a' := ?_) #[true, true, true, true, true, true, true, true, true, true, true, true, false, false, false, false, false, false, false, false, false, false, false, false, false, false, false, false, false, false] rfl rfl (by kernel_rfl) (fun _ _ _ h => h) (Or.inl ⟨by rfl, ?_⟩) ?_ ?_
          rotate_left
          · intro w'
            go_simp
            with_reducible rfl
          rotate_left
          · simp only [Act.put, List.setIfInBounds_toArray, List.set_cons_zero, List.set_cons_succ, i64_w, i32_w]
            rfl
          refine pure_ (i := 12) (N := some 102) (v := ?_) (a' := ?_) #[true, true, true, true, true, true, true, true, true, true, true, true, true, false, false, false, false, false, false, false, false, false, false, false, false, false, false, false, false, false] rfl rfl (by kernel_rfl) (fun _ _ _ h => h) (Or.inl ⟨by rfl, ?_⟩) ?_ ?_
          rotate_left
          · intro w'
            go_simp
            with_reducible rfl
          rotate_left
          · simp only [Act.put, List.setIfInBounds_toArray, List.set_cons_zero, List.set_cons_succ, i64_w, i32_w]
            rfl
          refine pure_ (i := 13) (N := some 103) (v := ?_) (a' := ?_) #[true, true, true, true, true, true, true, true, true, true, true, true, true, true, false, false, false, false, false, false, false, false, false, false, false, false, false, false, false, false] rfl rfl (by kernel_rfl) (fun _ _ _ h => h) (Or.inl ⟨by rfl, ?_⟩) ?_ ?_
          rotate_left
          · intro w'
            go_simp
            with_reducible rfl
          rotate_left
          · simp only [Act.put, List.setIfInBounds_toArray, List.set_cons_zero, List.set_cons_succ, i64_w, i32_w]
            rfl
          refine take_ (i := 15) (N := some 105) (v := ?_) (a' := ?_) #[true, true, true, true, true, true, true, true, true, true, true, true, true, true, false, true, false, false, false, false, false, false, false, false, false, false, false, false, false, false] rfl rfl (by kernel_rfl) (fun _ _ _ h => h) (Or.inl ⟨by rfl, ?_⟩) hHeld ?_ ?_
          rotate_left
          · rintro w' ⟨s0, s1⟩
            go_simp
            with_reducible rfl
          rotate_left
          · simp only [Act.put, List.setIfInBounds_toArray, List.set_cons_zero, List.set_cons_succ, i64_w, i32_w]
            rfl
          refine one_ (i := 14) (N := some 104) #[true, true, true, true, true, true, true, true, true, true, true, true, true, true, true, true, false, false, false, false, false, false, false, false, false, false, false, false, false, false] rfl rfl (by kernel_rfl) (by decide) (fun K hK => ?_)
          refine goes_ Tryz.func35 (by kernel_rfl) rfl #[.pointer (some ⟨sb, 0, none⟩), .slice none 0 0] (by rfl) rfl rfl (by simp only [List.map_toArray, List.map_cons, List.map_nil]; rfl) ?_
          with_reducible refine (KAP.out _ _ _ _ f7).mono ?_
          rintro e u14 ⟨rfl, hu14⟩
          refine ⟨_, rfl, ?_⟩
          subst hu14
          refine hK.out _ _ ⟨(ZZ.out _ f7).1, (ZZ.out _ f7).2⟩ (fun hHeld => ?_)
          clear hK K
          refine norm_ (a' := ?_) ?_ ?_
          rotate_left
          · show Act.put _ (some 104) _ = _
            simp only [Act.put, List.setIfInBounds_toArray, List.set_cons_zero, List.set_cons_succ, i64_w, i32_w]
            rfl
          refine pure_ (i := 16) (N := some 106) (v := ?_) (a' := ?_) #[true, true, true, true, true, true, true, true, true, true, true, true, true, true, true, true, true, false, false, false, false, false, false, false, false, false, false, false, false, false] rfl rfl (by kernel_rfl) (fun _ _ _ h => h) (Or.inl ⟨by rfl, ?_⟩) ?_ ?_
          rotate_left
          · intro w'
            go_simp
            with_reducible rfl
          rotate_left
          · simp only [Act.put, List.setIfInBounds_toArray, List.set_cons_zero, List.set_cons_succ, i64_w, i32_w]
            rfl
          refine pure_ (i := 17) (N := some 107) (v := ?_) (a' := ?_) #[true, true, true, true, true, true, true, true, true, true, true, true, true, true, true, true, true, true, false, false, false, false, false, false, false, false, false, false, false, false] rfl rfl (by kernel_rfl) (fun _ _ _ h => h) (Or.inl ⟨by rfl, ?_⟩) ?_ ?_
          rotate_left
          · intro w'
            go_simp
            with_reducible rfl
          rotate_left
          · simp only [Act.put, List.setIfInBounds_toArray, List.set_cons_zero, List.set_cons_succ, i64_w, i32_w]
            rfl
          refine pure_ (i := 18) (N := some 108) (v := ?_) (a' := ?_) #[true, true, true, true, true, true, true, true, true, true, true, true, true, true, true, true, true, true, true, false, false, false, false, false, false, false, false, false, false, false] rfl rfl (by kernel_rfl) (fun _ _ _ h => h) (Or.inl ⟨by rfl, ?_⟩) ?_ ?_
          rotate_left
          · intro w'
            go_simp
            with_reducible rfl
          rotate_left
          · simp only [Act.put, List.setIfInBounds_toArray, List.set_cons_zero, List.set_cons_succ, i64_w, i32_w]
            rfl
          refine pure_ (i := 19) (N := some 109) (v := ?_) (a' := ?_) #[true, true, true, true, true, true, true, true, true, true, true, true, true, true, true, true, true, true, true, true, false, false, false, false, false, false, false, false, false, false] rfl rfl (by kernel_rfl) (fun _ _ _ h => h) (Or.inl ⟨by rfl, ?_⟩) ?_ ?_
          rotate_left
          · intro w'
            go_simp
            with_reducible rfl
          rotate_left
          · simp only [Act.put, List.setIfInBounds_toArray, List.set_cons_zero, List.set_cons_succ, i64_w, i32_w]
            rfl
          refine take_ (i := 21) (N := some 111) (v := ?_) (a' := ?_) #[true, true, true, true, true, true, true, true, true, true, true, true, true, true, true, true, true, true, true, true, false, true, false, false, false, false, false, false, false, false] rfl rfl (by kernel_rfl) (fun _ _ _ h => h) (Or.inl ⟨by rfl, ?_⟩) hHeld ?_ ?_
          rotate_left
          · rintro w' ⟨s0, s1⟩
            go_simp
            with_reducible rfl
          rotate_left
          · simp only [Act.put, List.setIfInBounds_toArray, List.set_cons_zero, List.set_cons_succ, i64_w, i32_w]
            rfl
          refine one_ (i := 20) (N := some 110) #[true, true, true, true, true, true, true, true, true, true, true, true, true, true, true, true, true, true, true, true, true, true, false, false, false, false, false, false, false, false] rfl rfl (by kernel_rfl) (by decide) (fun K hK => ?_)
          refine goes_ Tryz.func47 (by kernel_rfl) rfl #[.pointer (some ⟨sb, 0, none⟩)] (by rfl) rfl rfl (by simp only [List.map_toArray, List.map_cons, List.map_nil]; rfl) ?_
          with_reducible refine (KSY.out _ f7).mono ?_
          rintro e u20 ⟨rfl, hu20⟩
          refine ⟨_, rfl, ?_⟩
          subst hu20
          refine hK.out _ _ ⟨(ZZ.out _ f7).1, (ZZ.out _ f7).2⟩ (fun hHeld => ?_)
          clear hK K
          refine norm_ (a' := ?_) ?_ ?_
          rotate_left
          · show Act.put _ (some 110) _ = _
            simp only [Act.put, List.setIfInBounds_toArray, List.set_cons_zero, List.set_cons_succ, i64_w, i32_w]
            rfl
          refine pure_ (i := 22) (N := some 112) (v := ?_) (a' := ?_) #[true, true, true, true, true, true, true, true, true, true, true, true, true, true, true, true, true, true, true, true, true, true, true, false, false, false, false, false, false, false] rfl rfl (by kernel_rfl) (fun _ _ _ h => h) (Or.inl ⟨by rfl, ?_⟩) ?_ ?_
          rotate_left
          · intro w'
            go_simp
            with_reducible rfl
          rotate_left
          · simp only [Act.put, List.setIfInBounds_toArray, List.set_cons_zero, List.set_cons_succ, i64_w, i32_w]
            rfl
          refine pure_ (i := 23) (N := some 113) (v := ?_) (a' := ?_) #[true, true, true, true, true, true, true, true, true, true, true, true, true, true, true, true, true, true, true, true, true, true, true, true, false, false, false, false, false, false] rfl rfl (by kernel_rfl) (fun _ _ _ h => h) (Or.inl ⟨by rfl, ?_⟩) ?_ ?_
          rotate_left
          · intro w'
            go_simp
            with_reducible rfl
          rotate_left
          · simp only [Act.put, List.setIfInBounds_toArray, List.set_cons_zero, List.set_cons_succ, i64_w, i32_w]
            rfl
          refine pure_ (i := 24) (N := some 114) (v := ?_) (a' := ?_) #[true, true, true, true, true, true, true, true, true, true, true, true, true, true, true, true, true, true, true, true, true, true, true, true, true, false, false, false, false, false] rfl rfl (by kernel_rfl) (fun _ _ _ h => h) (Or.inl ⟨by rfl, ?_⟩) ?_ ?_
          rotate_left
          · intro w'
            go_simp
            with_reducible rfl
          rotate_left
          · simp only [Act.put, List.setIfInBounds_toArray, List.set_cons_zero, List.set_cons_succ, i64_w, i32_w]
            rfl
          refine pure_ (i := 25) (N := some 115) (v := ?_) (a' := ?_) #[true, true, true, true, true, true, true, true, true, true, true, true, true, true, true, true, true, true, true, true, true, true, true, true, true, true, false, false, false, false] rfl rfl (by kernel_rfl) (fun _ _ _ h => h) (Or.inl ⟨by rfl, ?_⟩) ?_ ?_
          rotate_left
          · intro w'
            go_simp
            with_reducible rfl
          rotate_left
          · simp only [Act.put, List.setIfInBounds_toArray, List.set_cons_zero, List.set_cons_succ, i64_w, i32_w]
            rfl
          refine take_ (i := 27) (N := some 117) (v := ?_) (a' := ?_) #[true, true, true, true, true, true, true, true, true, true, true, true, true, true, true, true, true, true, true, true, true, true, true, true, true, true, false, true, false, false] rfl rfl (by kernel_rfl) (fun _ _ _ h => h) (Or.inl ⟨by rfl, ?_⟩) hHeld ?_ ?_
          rotate_left
          · rintro w' ⟨s0, s1⟩
            go_simp
            with_reducible rfl
          rotate_left
          · simp only [Act.put, List.setIfInBounds_toArray, List.set_cons_zero, List.set_cons_succ, i64_w, i32_w]
            rfl
          refine one_ (i := 26) (N := some 116) #[true, true, true, true, true, true, true, true, true, true, true, true, true, true, true, true, true, true, true, true, true, true, true, true, true, true, true, true, false, false] rfl rfl (by kernel_rfl) (by decide) (fun K hK => ?_)
          refine goes_ Tryz.func44 (by kernel_rfl) rfl #[.pointer (some ⟨sb, 0, none⟩)] (by rfl) rfl rfl (by simp only [List.map_toArray, List.map_cons, List.map_nil]; rfl) ?_
          with_reducible refine (KCU.out _ f7).mono ?_
          rintro e u26 ⟨rfl, hu26⟩
          refine ⟨_, rfl, ?_⟩
          subst hu26
          refine hK.out _ _ ⟨(ZZ.out _ f7).1, (ZZ.out _ f7).2⟩ (fun hHeld => ?_)
          clear hK K
          refine norm_ (a' := ?_) ?_ ?_
          rotate_left
          · show Act.put _ (some 116) _ = _
            simp only [Act.put, List.setIfInBounds_toArray, List.set_cons_zero, List.set_cons_succ, i64_w, i32_w]
            rfl
          refine pure_ (i := 28) (N := some 118) (v := ?_) (a' := ?_) #[true, true, true, true, true, true, true, true, true, true, true, true, true, true, true, true, true, true, true, true, true, true, true, true, true, true, true, true, true, false] rfl rfl (by kernel_rfl) (fun _ _ _ h => h) (Or.inl ⟨by rfl, ?_⟩) ?_ ?_
          rotate_left
          · intro w'
            go_simp
            with_reducible rfl
          rotate_left
          · simp only [Act.put, List.setIfInBounds_toArray, List.set_cons_zero, List.set_cons_succ, i64_w, i32_w]
            rfl
          refine pure_ (i := 29) (N := some 119) (v := ?_) (a' := ?_) #[true, true, true, true, true, true, true, true, true, true, true, true, true, true, true, true, true, true, true, true, true, true, true, true, true, true, true, true, true, true] rfl rfl (by kernel_rfl) (fun _ _ _ h => h) (Or.inl ⟨by rfl, ?_⟩) ?_ ?_
          rotate_left
          · intro w'
            go_simp
            with_reducible rfl
          rotate_left
          · simp only [Act.put, List.setIfInBounds_toArray, List.set_cons_zero, List.set_cons_succ, i64_w, i32_w]
            rfl
          refine done_ (by kernel_rfl) ?_
          all_goals
            have KI5 := Lib.hid (HI0.step f7)
            have KO5 := Lib.hid KI5.out.ops
            have KN5 := Lib.hid KI5.out.next
            have KB5 := Lib.hid KI5.out.blocks
            unfold segP at KN5 KB5
            go_wp2_with (first
              | (go_at_call 28; (with_reducible refine KO5.out.mono ?_); rintro e u1 ⟨rfl, hu⟩; subst hu)
              | (go_at_call 42; (with_reducible refine KN5.out.mono ?_); rintro e u1 ⟨rfl, hu⟩; subst hu)
              | (go_at_call 38; (with_reducible refine KB5.out.mono ?_); rintro e u1 ⟨rfl, hu⟩; subst hu))
            go_ret
            exact ⟨rfl, H0.out.2.trans KI5.out.frm (fun _ _ h => h)⟩
        | false =>
          have HX3 := Lib.hid (And.intro hs3 hs4)
          have HP : Hid (∀ W, Frm (fun _ => False) w W → RecsAt W p rs) := Lib.hid (fun W hW => HK6.out.1.frm hW)
          have HR : Hid (rs.length ≤ 4194304 ∧ ∀ r, r ∈ rs → ∀ x, x ∈ r → 0 ≤ x ∧ x < 256) := Lib.hid ⟨recs_light HRS.out HV.out, fun r hr => (HK6.out.2 r hr).2⟩
          by_cases h0 : rs = []
          · subst h0
            simp only [List.length_nil] at KG k3
            go_wp2_with (first
              | (go_at_call 42; (with_reducible refine KN.out.mono ?_); rintro e w9 ⟨rfl, rfl⟩)
              | (go_at_call 38; (with_reducible refine KB.out.mono ?_); rintro e w9 ⟨rfl, rfl⟩)
              | (go_at_call 46; (with_reducible refine (KM.out _ rfl).mono ?_); rintro e w10 ⟨rfl, hs10, ho10⟩; have HS10 := Lib.hid hs10; have G10 := KG.out _ ((H0.out.2.trans hs10.frm (fun _ _ h => h))); obtain ⟨j1, j2⟩ := G10; have KY := Lib.hid (hs10.idle p c2); unfold segP at KY; clear hs10 ho10)
              | (go_at_call 35; (with_reducible refine KY.out.mono ?_); rintro e w11 ⟨rfl, rfl⟩))
            exact ⟨⟨i + 1, _, by go_num, by omega, HS10.out⟩, by simp [intOf]; omega⟩
          · obtain ⟨nr, hnr⟩ : ∃ nr, nr = rs.length := ⟨_, rfl⟩
            have hnr0 : 0 < nr := by have := List.length_pos_iff.2 h0; omega
            have H00 := Lib.hid h0
            rw [← hnr] at KG k3 k4
            have HNR := Lib.hid hnr
            clear hnr h0
            by_cases hp : (packE x rs).1 = 0
            · have HPK := Lib.hid hp
              clear hp
              go_upto_region 23 with (first
                | (go_at_call 42; (with_reducible refine KN.out.mono ?_); rintro e w9 ⟨rfl, rfl⟩)
                | (go_at_call 38; (with_reducible refine KB.out.mono ?_); rintro e w9 ⟨rfl, rfl⟩)
                | (go_at_call 46; (with_reducible refine (KM.out _ rfl).mono ?_); rintro e w10 ⟨rfl, hs10, ho10⟩; have HS10 := Lib.hid hs10; have G10 := KG.out _ ((H0.out.2.trans hs10.frm (fun _ _ h => h))); obtain ⟨j1, j2⟩ := G10; have KY := Lib.hid (hs10.io part D1 rfl HK.out.off p c2 rs (HP.out _ (H0.out.2.trans hs10.frm (fun _ _ h => h))) (by have := HNR.out; omega) HR.out.1 HR.out.2 H00.out HPK.out); rw [← HNR.out] at KY; unfold segP at KY; simp only [v6] at KY; clear hs10 ho10)
                | (go_at_call 35; (with_reducible refine KY.out.mono ?_); rintro e w11 ⟨rfl, D11, hi11⟩; have HI := Lib.hid hi11; have e4 : w11.cell? ⟨1, 0, none⟩ = some (.iface 320 (.pointer (some (eb 4)))) := hi11.err 4 (by decide); have e6 : w11.cell? ⟨2, 0, none⟩ = some (.iface 320 (.pointer (some (eb 6)))) := hi11.err 6 (by decide); have e13 : w11.cell? ⟨0, 0, none⟩ = some (.iface 320 (.pointer (some (eb 13)))) := hi11.err 13 (by decide); have q64 : (binOp .eql 32 (.iface 320 (.pointer (some (eb 6)))) (.iface 320 (.pointer (some (eb 4))))).run Tryz.prog w11 = .ok (.bool false) w11 := hi11.eql (c := 6) (d := 4) (by decide) (by decide); have KOP := Lib.hid hi11.ops; clear hi11)
                | (go_at_call 28; (with_reducible refine KOP.out.mono ?_); rintro e w12 ⟨rfl, rfl⟩))
              have HI0 := HI.out
              have ZZ : Hid (∀ W, Frm (fun _ => False) w12 W → W.cell? ⟨2, 0, none⟩ = some (.iface 320 (.pointer (some (eb 6)))) ∧ W.cell? ⟨0, 0, none⟩ = some (.iface 320 (.pointer (some (eb 13))))) := Lib.hid (fun W hW => ⟨(HI0.step hW).err 6 (by decide), (HI0.step hW).err 13 (by decide)⟩)
              have KAP : Hid (∀ W k c A, Frm (fun _ => False) w12 W → Calls Tryz.prog 35 #[.pointer (some ⟨sb, 0, none⟩), .slice A k c] W fun e w' => e = .returned (.iface 320 (.pointer (some (eb 13)))) ∧ w' = W) := Lib.hid (fun W k c A hW => (HI0.step hW).append A k c)
              have KSY : Hid (∀ W, Frm (fun _ => False) w12 W → Calls Tryz.prog 47 #[.pointer (some ⟨sb, 0, none⟩)] W fun e w' => e = .returned (.iface 320 (.pointer (some (eb 13)))) ∧ w' = W) := Lib.hid (fun W hW => (HI0.step hW).sync)
              have KCU : Hid (∀ W, Frm (fun _ => False) w12 W → Calls Tryz.prog 44 #[.pointer (some ⟨sb, 0, none⟩)] W fun e w' => e = .returned (.iface 320 (.pointer (some (eb 13)))) ∧ w' = W) := Lib.hid (fun W hW => (HI0.step hW).cut)
              have S0 := Lib.hid (ZZ.out w12 (Frm.refl _ _))
              have D0 := Lib.hid (ZZ.out w12.drew (Frm.refl _ _).drew)
              have cvn := conv_new w12 120
              have cvd := conv_newD w12 120
              have heql := err_neq
              refine start_ (n := 30) (S := fun w' => w'.cell? ⟨2, 0, none⟩ = some (.iface 320 (.pointer (some (eb 6)))) ∧ w'.cell? ⟨0, 0, none⟩ = some (.iface 320 (.pointer (some (eb 13))))) (ds := []) #[false, false, false, false, false, false, false, false, false, false, false, false, false, false, false, false, false, false, false, false, false, false, false, false, false, false, false, false, false, false] (by kernel_rfl) rfl rfl ⟨D0.out.1, D0.out.2⟩ (fun hHeld => ?_)
              refine pure_ (i := 0) (N := some 90) (v := ?_) (a' := ?_) #[true, false, false, false, false, false, false, false, false, false, false, false, false, false, false, false, false, false, false, false, false, false, false, false, false, false, false, false, false, false] rfl rfl (by kernel_rfl) (fun _ _ _ h => h) (Or.inl ⟨by rfl, ?_⟩) ?_ ?_
              rotate_left
              · intro w'
                go_simp
                with_reducible rfl
              rotate_left
              · simp only [Act.put, List.setIfInBounds_toArray, List.set_cons_zero, List.set_cons_succ, i64_w, i32_w]
                rfl
              refine take_ (i := 1) (N := some 91) (v := ?_) (a' := ?_) #[true, true, false, false, false, false, false, false, false, false, false, false, false, false, false, false, false, false, false, false, false, false, false, false, false, false, false, false, false, false] rfl rfl (by kernel_rfl) (fun _ _ _ h => h) (Or.inl ⟨by rfl, ?_⟩) hHeld ?_ ?_
              rotate_left
              · rintro w' ⟨s0, s1⟩
                go_simp
                with_reducible rfl
              rotate_left
              · simp only [Act.put, List.setIfInBounds_toArray, List.set_cons_zero, List.set_cons_succ, i64_w, i32_w]
                rfl
              refine pure_ (i := 2) (N := some 92) (v := ?_) (a' := ?_) #[true, true, true, false, false, false, false, false, false, false, false, false, false, false, false, false, false, false, false, false, false, false, false, false, false, false, false, false, false, false] rfl rfl (by kernel_rfl) (fun _ _ _ h => h) (Or.inl ⟨by rfl, ?_⟩) ?_ ?_
              rotate_left
              · intro w'
                go_simp
                with_reducible rfl
              rotate_left
              · simp only [Act.put, List.setIfInBounds_toArray, List.set_cons_zero, List.set_cons_succ, i64_w, i32_w]
                rfl
              refine pure_ (i := 3) (N := some 93) (v := ?_) (a' := ?_) #[true, true, true, true, false, false, false, false, false, false, false, false, false, false, false, false, false, false, false, false, false, false, false, false, false, false, false, false, false, false] rfl rfl (by kernel_rfl) (fun _ _ _ h => h) (Or.inl ⟨by rfl, ?_⟩) ?_ ?_
              rotate_left
              · intro w'
                go_simp
                with_reducible rfl
              rotate_left
              · simp only [Act.put, List.setIfInBounds_toArray, List.set_cons_zero, List.set_cons_succ, i64_w, i32_w]
                rfl
              refine pure_ (i := 4) (N := some 94) (v := ?_) (a' := ?_) #[true, true, true, true, true, false, false, false, false, false, false, false, false, false, false, false, false, false, false, false, false, false, false, false, false, false, false, false, false, false] rfl rfl (by kernel_rfl) (fun _ _ _ h => h) (Or.inl ⟨by rfl, ?_⟩) ?_ ?_
              rotate_left
              · intro w'
                go_simp
                with_reducible rfl
              rotate_left
              · simp only [Act.put, List.setIfInBounds_toArray, List.set_cons_zero, List.set_cons_succ, i64_w, i32_w]
                rfl
              refine take_ (i := 9) (N := some 99) (v := ?_) (a' := ?_) #[true, true, true, true, true, false, false, false, false, true, false, false, false, false, false, false, false, false, false, false, false, false, false, false, false, false, false, false, false, false] rfl rfl (by kernel_rfl) (fun _ _ _ h => h) (Or.inl ⟨by rfl, ?_⟩) hHeld ?_ ?_
              rotate_left
              · rintro w' ⟨s0, s1⟩
                go_simp
                with_reducible rfl
              rotate_left
              · simp only [Act.put, List.setIfInBounds_toArray, List.set_cons_zero, List.set_cons_succ, i64_w, i32_w]
                rfl
              refine one_ (i := 5) (N := some 95) #[true, true, true, true, true, true, false, false, false, true, false, false, false, false, false, false, false, false, false, false, false, false, false, false, false, false, false, false, false, false] rfl rfl (by kernel_rfl) (by decide) (fun K hK => ?_)
              refine value_ (w1 := ?_) (v := ?_) (by rfl) rfl ?_ ?_
              rotate_left 2
              · go_simp
                constructor
                · rfl
                · rfl
              obtain ⟨u5, hu5⟩ : ∃ u, u = (World.alloc w12 (.cells #[.int .u8 120] 5)).drew := ⟨_, rfl⟩
              rw [← hu5]
              have b5 : u5.heap[w12.heap.size]? = some (.cells #[.int .u8 120] 5 (0, 0)) := by rw [hu5]; exact blk_alloc
              have f5 : Frm (fun _ => False) w12 u5 := by rw [hu5]; exact ((Frm.refl _ _).alloc _).drew
              clear hu5
              refine hK.out _ _ ⟨(ZZ.out _ f5).1, (ZZ.out _ f5).2⟩ (fun hHeld => ?_)
              clear hK K
              refine norm_ (a' := ?_) ?_ ?_
              rotate_left
              · show Act.put _ (some 95) _ = _
                simp only [Act.put, List.setIfInBounds_toArray, List.set_cons_zero, List.set_cons_succ, i64_w, i32_w]
                rfl
              refine one_ (i := 6) (N := some 96) #[true, true, true, true, true, true, true, false, false, true, false, false, false, false, false, false, false, false, false, false, false, false, false, false, false, false, false, false, false, false] rfl rfl (by kernel_rfl) (by decide) (fun K hK => ?_)
              obtain ⟨u6, e6, t6, z6, q6⟩ := convMark (W := u5) (n := 1) (c := 1) b5
              refine value_ (w1 := ?_) (v := ?_) (by rfl) rfl ?_ ?_
              rotate_left 2
              · go_simp
                constructor
                · rfl
                · rfl
              have f6 : Frm (fun _ => False) w12 u6 := f5.trans t6 (fun k hk e => by omega)
              clear e6 z6 q6
              refine hK.out _ _ ⟨(ZZ.out _ f6).1, (ZZ.out _ f6).2⟩ (fun hHeld => ?_)
              clear hK K
              refine norm_ (a' := ?_) ?_ ?_
              rotate_left
              · show Act.put _ (some 96) _ = _
                simp only [Act.put, List.setIfInBounds_toArray, List.set_cons_zero, List.set_cons_succ, i64_w, i32_w]
                rfl
              refine one_ (i := 7) (N := some 97) #[true, true, true, true, true, true, true, true, false, true, false, false, false, false, false, false, false, false, false, false, false, false, false, false, false, false, false, false, false, false] rfl rfl (by kernel_rfl) (by decide) (fun K hK => ?_)
              refine value_ (w1 := ?_) (v := ?_) (by rfl) rfl ?_ ?_
              rotate_left 2
              · go_simp
                constructor
                · rfl
                · rfl
              obtain ⟨u7, hu7⟩ : ∃ u, u = World.alloc u6 (.cells #[.slice (some ⟨w12.heap.size, 0, none⟩) 1 1] 40) := ⟨_, rfl⟩
              rw [← hu7]
              have b7 : u7.heap[u6.heap.size]? = some (.cells #[.slice (some ⟨w12.heap.size, 0, none⟩) 1 1] 40 (0, 0)) := by rw [hu7]; exact blk_alloc
              have f7 : Frm (fun _ => False) w12 u7 := by rw [hu7]; exact f6.alloc _
              clear hu7
              refine hK.out _ _ ⟨(ZZ.out _ f7).1, (ZZ.out _ f7).2⟩ (fun hHeld => ?_)
              clear hK K
              refine norm_ (a' := ?_) ?_ ?_
              rotate_left
              · show Act.put _ (some 97) _ = _
                simp only [Act.put, List.setIfInBounds_toArray, List.set_cons_zero, List.set_cons_succ, i64_w, i32_w]
                rfl
              refine one_ (i := 8) (N := some 98) #[true, true, true, true, true, true, true, true, true, true, false, false, false, false, false, false, false, false, false, false, false, false, false, false, false, false, false, false, false, false] rfl rfl (by kernel_rfl) (by decide) (fun K hK => ?_)
              refine goes_ Tryz.func35 (by kernel_rfl) rfl #[.pointer (some ⟨sb, 0, none⟩), .slice (some ⟨u6.heap.size, 0, none⟩) 1 1] (by rfl) rfl rfl (by simp only [List.map_toArray, List.map_cons, List.map_nil]; rfl) ?_
              with_reducible refine (KAP.out _ _ _ _ f7).mono ?_
              rintro e u8 ⟨rfl, hu8⟩
              refine ⟨_, rfl, ?_⟩
              subst hu8
              refine hK.out _ _ ⟨(ZZ.out _ f7).1, (ZZ.out _ f7).2⟩ (fun hHeld => ?_)
              clear hK K
              refine norm_ (a' := ?_) ?_ ?_
              rotate_left
              · show Act.put _ (some 98) _ = _
                simp only [Act.put, List.setIfInBounds_toArray, List.set_cons_zero, List.set_cons_succ, i64_w, i32_w]
                rfl
              refine pure_ (i := 10) (N := some 100) (v := ?_) (a' := ?_) #[true, true, true, true, true, true, true, true, true, true, true, false, false, false, false, false, false, false, false, false, false, false, false, false, false, false, false, false, false, false] rfl rfl (by kernel_rfl) (fun _ _ _ h => h) (Or.inl ⟨by rfl, ?_⟩) ?_ ?_
              rotate_left
              · intro w'
                go_simp
                with_reducible rfl
              rotate_left
              · simp only [Act.put, List.setIfInBounds_toArray, List.set_cons_zero, List.set_cons_succ, i64_w, i32_w]
                rfl
              refine pure_ (i := 11) (N := some 101) (v := ?_) (a' := ?_) #[true, true, true, true, true, true, true, true, true, true, true, true, false, false, false, false, false, false, false, false, false, false, false, false, false, false, false, false, false, false] rfl rfl (by kernel_rfl) (fun _ _ _ h => h) (Or.inl ⟨by rfl, ?_⟩) ?_ ?_
              rotate_left
              · intro w'
                go_simp
                with_reducible rfl
              rotate_left
              · simp only [Act.put, List.setIfInBounds_toArray, List.set_cons_zero, List.set_cons_succ, i64_w, i32_w]
                rfl
              refine pure_ (i := 12) (N := some 102) (v := ?_) (a' := ?_) #[true, true, true, true, true, true, true, true, true, true, true, true, true, false, false, false, false, false, false, false, false, false, false, false, false, false, false, false, false, false] rfl rfl (by kernel_rfl) (fun _ _ _ h => h) (Or.inl ⟨by rfl, ?_⟩) ?_ ?_
              rotate_left
              · intro w'
                go_simp
                with_reducible rfl
              rotate_left
              · simp only [Act.put, List.setIfInBounds_toArray, List.set_cons_zero, List.set_cons_succ, i64_w, i32_w]
                rfl
              refine pure_ (i := 13) (N := some 103) (v := ?_) (a' := ?_) #[true, true, true, true, true, true, true, true, true, true, true, true, true, true, false, false, false, false, false, false, false, false, false, false, false, false, false, false, false, false] rfl rfl (by kernel_rfl) (fun _ _ _ h => h) (Or.inl ⟨by rfl, ?_⟩) ?_ ?_
              rotate_left
              · intro w'
                go_simp
                with_reducible rfl
              rotate_left
              · simp only [Act.put, List.setIfInBounds_toArray, List.set_cons_zero, List.set_cons_succ, i64_w, i32_w]
                rfl
              refine take_ (i := 15) (N := some 105) (v := ?_) (a' := ?_) #[true, true, true, true, true, true, true, true, true, true, true, true, true, true, false, true, false, false, false, false, false, false, false, false, false, false, false, false, false, false] rfl rfl (by kernel_rfl) (fun _ _ _ h => h) (Or.inl ⟨by rfl, ?_⟩) hHeld ?_ ?_
              rotate_left
              · rintro w' ⟨s0, s1⟩
                go_simp
                with_reducible rfl
              rotate_left
              · simp only [Act.put, List.setIfInBounds_toArray, List.set_cons_zero, List.set_cons_succ, i64_w, i32_w]
                rfl
              refine one_ (i := 14) (N := some 104) #[true, true, true, true, true, true, true, true, true, true, true, true, true, true, true, true, false, false, false, false, false, false, false, false, false, false, false, false, false, false] rfl rfl (by kernel_rfl) (by decide) (fun K hK => ?_)
              refine goes_ Tryz.func35 (by kernel_rfl) rfl #[.pointer (some ⟨sb, 0, none⟩), .slice none 0 0] (by rfl) rfl rfl (by simp only [List.map_toArray, List.map_cons, List.map_nil]; rfl) ?_
              with_reducible refine (KAP.out _ _ _ _ f7).mono ?_
              rintro e u14 ⟨rfl, hu14⟩
              refine ⟨_, rfl, ?_⟩
              subst hu14
              refine hK.out _ _ ⟨(ZZ.out _ f7).1, (ZZ.out _ f7).2⟩ (fun hHeld => ?_)
              clear hK K
              refine norm_ (a' := ?_) ?_ ?_
              rotate_left
              · show Act.put _ (some 104) _ = _
                simp only [Act.put, List.setIfInBounds_toArray, List.set_cons_zero, List.set_cons_succ, i64_w, i32_w]
                rfl
              refine pure_ (i := 16) (N := some 106) (v := ?_) (a' := ?_) #[true, true, true, true, true, true, true, true, true, true, true, true, true, true, true, true, true, false, false, false, false, false, false, false, false, false, false, false, false, false] rfl rfl (by kernel_rfl) (fun _ _ _ h => h) (Or.inl ⟨by rfl, ?_⟩) ?_ ?_
              rotate_left
              · intro w'
                go_simp
                with_reducible rfl
              rotate_left
              · simp only [Act.put, List.setIfInBounds_toArray, List.set_cons_zero, List.set_cons_succ, i64_w, i32_w]
                rfl
              refine pure_ (i := 17) (N := some 107) (v := ?_) (a' := ?_) #[true, true, true, true, true, true, true, true, true, true, true, true, true, true, true, true, true, true, false, false, false, false, false, false, false, false, false, false, false, false] rfl rfl (by kernel_rfl) (fun _ _ _ h => h) (Or.inl ⟨by rfl, ?_⟩) ?_ ?_
              rotate_left
              · intro w'
                go_simp
                with_reducible rfl
              rotate_left
              · simp only [Act.put, List.setIfInBounds_toArray, List.set_cons_zero, List.set_cons_succ, i64_w, i32_w]
                rfl
              refine pure_ (i := 18) (N := some 108) (v := ?_) (a' := ?_) #[true, true, true, true, true, true, true, true, true, true, true, true, true, true, true, true, true, true, true, false, false, false, false, false, false, false, false, false, false, false] rfl rfl (by kernel_rfl) (fun _ _ _ h => h) (Or.inl ⟨by rfl, ?_⟩) ?_ ?_
              rotate_left
              · intro w'
                go_simp
                with_reducible rfl
              rotate_left
              · simp only [Act.put, List.setIfInBounds_toArray, List.set_cons_zero, List.set_cons_succ, i64_w, i32_w]
                rfl
              refine pure_ (i := 19) (N := some 109) (v := ?_) (a' := ?_) #[true, true, true, true, true, true, true, true, true, true, true, true, true, true, true, true, true, true, true, true, false, false, false, false, false, false, false, false, false, false] rfl rfl (by kernel_rfl) (fun _ _ _ h => h) (Or.inl ⟨by rfl, ?_⟩) ?_ ?_
              rotate_left
              · intro w'
                go_simp
                with_reducible rfl
              rotate_left
              · simp only [Act.put, List.setIfInBounds_toArray, List.set_cons_zero, List.set_cons_succ, i64_w, i32_w]
                rfl
              refine take_ (i := 21) (N := some 111) (v := ?_) (a' := ?_) #[true, true, true, true, true, true, true, true, true, true, true, true, true, true, true, true, true, true, true, true, false, true, false, false, false, false, false, false, false, false] rfl rfl (by kernel_rfl) (fun _ _ _ h => h) (Or.inl ⟨by rfl, ?_⟩) hHeld ?_ ?_
              rotate_left
              · rintro w' ⟨s0, s1⟩
                go_simp
                with_reducible rfl
              rotate_left
              · simp only [Act.put, List.setIfInBounds_toArray, List.set_cons_zero, List.set_cons_succ, i64_w, i32_w]
                rfl
              refine one_ (i := 20) (N := some 110) #[true, true, true, true, true, true, true, true, true, true, true, true, true, true, true, true, true, true, true, true, true, true, false, false, false, false, false, false, false, false] rfl rfl (by kernel_rfl) (by decide) (fun K hK => ?_)
              refine goes_ Tryz.func47 (by kernel_rfl) rfl #[.pointer (some ⟨sb, 0, none⟩)] (by rfl) rfl rfl (by simp only [List.map_toArray, List.map_cons, List.map_nil]; rfl) ?_
              with_reducible refine (KSY.out _ f7).mono ?_
              rintro e u20 ⟨rfl, hu20⟩
              refine ⟨_, rfl, ?_⟩
              subst hu20
              refine hK.out _ _ ⟨(ZZ.out _ f7).1, (ZZ.out _ f7).2⟩ (fun hHeld => ?_)
              clear hK K
              refine norm_ (a' := ?_) ?_ ?_
              rotate_left
              · show Act.put _ (some 110) _ = _
                simp only [Act.put, List.setIfInBounds_toArray, List.set_cons_zero, List.set_cons_succ, i64_w, i32_w]
                rfl
              refine pure_ (i := 22) (N := some 112) (v := ?_) (a' := ?_) #[true, true, true, true, true, true, true, true, true, true, true, true, true, true, true, true, true, true, true, true, true, true, true, false, false, false, false, false, false, false] rfl rfl (by kernel_rfl) (fun _ _ _ h => h) (Or.inl ⟨by rfl, ?_⟩) ?_ ?_
              rotate_left
              · intro w'
                go_simp
                with_reducible rfl
              rotate_left
              · simp only [Act.put, List.setIfInBounds_toArray, List.set_cons_zero, List.set_cons_succ, i64_w, i32_w]
                rfl
              refine pure_ (i := 23) (N := some 113) (v := ?_) (a' := ?_) #[true, true, true, true, true, true, true, true, true, true, true, true, true, true, true, true, true, true, true, true, true, true, true, true, false, false, false, false, false, false] rfl rfl (by kernel_rfl) (fun _ _ _ h => h) (Or.inl ⟨by rfl, ?_⟩) ?_ ?_
              rotate_left
              · intro w'
                go_simp
                with_reducible rfl
              rotate_left
              · simp only [Act.put, List.setIfInBounds_toArray, List.set_cons_zero, List.set_cons_succ, i64_w, i32_w]
                rfl
              refine pure_ (i := 24) (N := some 114) (v := ?_) (a' := ?_) #[true, true, true, true, true, true, true, true, true, true, true, true, true, true, true, true, true, true, true, true, true, true, true, true, true, false, false, false, false, false] rfl rfl (by kernel_rfl) (fun _ _ _ h => h) (Or.inl ⟨by rfl, ?_⟩) ?_ ?_
              rotate_left
              · intro w'
                go_simp
                with_reducible rfl
              rotate_left
              · simp only [Act.put, List.setIfInBounds_toArray, List.set_cons_zero, List.set_cons_succ, i64_w, i32_w]
                rfl
              refine pure_ (i := 25) (N := some 115) (v := ?_) (a' := ?_) #[true, true, true, true, true, true, true, true, true, true, true, true, true, true, true, true, true, true, true, true, true, true, true, true, true, true, false, false, false, false] rfl rfl (by kernel_rfl) (fun _ _ _ h => h) (Or.inl ⟨by rfl, ?_⟩) ?_ ?_
              rotate_left
              · intro w'
                go_simp
                with_reducible rfl
              rotate_left
              · simp only [Act.put, List.setIfInBounds_toArray, List.set_cons_zero, List.set_cons_succ, i64_w, i32_w]
                rfl
              refine take_ (i := 27) (N := some 117) (v := ?_) (a' := ?_) #[true, true, true, true, true, true, true, true, true, true, true, true, true, true, true, true, true, true, true, true, true, true, true, true, true, true, false, true, false, false] rfl rfl (by kernel_rfl) (fun _ _ _ h => h) (Or.inl ⟨by rfl, ?_⟩) hHeld ?_ ?_
              rotate_left
              · rintro w' ⟨s0, s1⟩
                go_simp
                with_reducible rfl
              rotate_left
              · simp only [Act.put, List.setIfInBounds_toArray, List.set_cons_zero, List.set_cons_succ, i64_w, i32_w]
                rfl
              refine one_ (i := 26) (N := some 116) #[true, true, true, true, true, true, true, true, true, true, true, true, true, true, true, true, true, true, true, true, true, true, true, true, true, true, true, true, false, false] rfl rfl (by kernel_rfl) (by decide) (fun K hK => ?_)
              refine goes_ Tryz.func44 (by kernel_rfl) rfl #[.pointer (some ⟨sb, 0, none⟩)] (by rfl) rfl rfl (by simp only [List.map_toArray, List.map_cons, List.map_nil]; rfl) ?_
              with_reducible refine (KCU.out _ f7).mono ?_
              rintro e u26 ⟨rfl, hu26⟩
              refine ⟨_, rfl, ?_⟩
              subst hu26
              refine hK.out _ _ ⟨(ZZ.out _ f7).1, (ZZ.out _ f7).2⟩ (fun hHeld => ?_)
              clear hK K
              refine norm_ (a' := ?_) ?_ ?_
              rotate_left
              · show Act.put _ (some 116) _ = _
                simp only [Act.put, List.setIfInBounds_toArray, List.set_cons_zero, List.set_cons_succ, i64_w, i32_w]
                rfl
              refine pure_ (i := 28) (N := some 118) (v := ?_) (a' := ?_) #[true, true, true, true, true, true, true, true, true, true, true, true, true, true, true, true, true, true, true, true, true, true, true, true, true, true, true, true, true, false] rfl rfl (by kernel_rfl) (fun _ _ _ h => h) (Or.inl ⟨by rfl, ?_⟩) ?_ ?_
              rotate_left
              · intro w'
                go_simp
                with_reducible rfl
              rotate_left
              · simp only [Act.put, List.setIfInBounds_toArray, List.set_cons_zero, List.set_cons_succ, i64_w, i32_w]
                rfl
              refine pure_ (i := 29) (N := some 119) (v := ?_) (a' := ?_) #[true, true, true, true, true, true, true, true, true, true, true, true, true, true, true, true, true, true, true, true, true, true, true, true, true, true, true, true, true, true] rfl rfl (by kernel_rfl) (fun _ _ _ h => h) (Or.inl ⟨by rfl, ?_⟩) ?_ ?_
              rotate_left
              · intro w'
                go_simp
                with_reducible rfl
              rotate_left
              · simp only [Act.put, List.setIfInBounds_toArray, List.set_cons_zero, List.set_cons_succ, i64_w, i32_w]
                rfl
              refine done_ (by kernel_rfl) ?_
              all_goals
                have KI5 := Lib.hid (HI0.step f7)
                have KO5 := Lib.hid KI5.out.ops
                have KN5 := Lib.hid KI5.out.next
                have KB5 := Lib.hid KI5.out.blocks
                unfold segP at KN5 KB5
                go_wp2_with (first
                  | (go_at_call 28; (with_reducible refine KO5.out.mono ?_); rintro e u1 ⟨rfl, hu⟩; subst hu)
                  | (go_at_call 42; (with_reducible refine KN5.out.mono ?_); rintro e u1 ⟨rfl, hu⟩; subst hu)
                  | (go_at_call 38; (with_reducible refine KB5.out.mono ?_); rintro e u1 ⟨rfl, hu⟩; subst hu))
                go_ret
                exact ⟨rfl, H0.out.2.trans KI5.out.frm (fun _ _ h => h)⟩
            · have HPK := Lib.hid hp
              clear hp
              go_wp2_with (first
                | (go_at_call 42; (with_reducible refine KN.out.mono ?_); rintro e w9 ⟨rfl, rfl⟩)
                | (go_at_call 38; (with_reducible refine KB.out.mono ?_); rintro e w9 ⟨rfl, rfl⟩)
                | (go_at_call 46; (with_reducible refine (KM.out _ rfl).mono ?_); rintro e w10 ⟨rfl, hs10, ho10⟩; have HS10 := Lib.hid hs10; have G10 := KG.out _ ((H0.out.2.trans hs10.frm (fun _ _ h => h))); obtain ⟨j1, j2⟩ := G10; have KY := Lib.hid (hs10.long HX3.out p c2 rs (HP.out _ (H0.out.2.trans hs10.frm (fun _ _ h => h))) (by have := HNR.out; omega) HR.out.1 HR.out.2 H00.out HPK.out); rw [← HNR.out] at KY; unfold segP at KY; simp only [v4] at KY; clear hs10 ho10)
                | (go_at_call 35; (with_reducible refine KY.out.mono ?_); rintro e w11 ⟨rfl, hs11⟩; have HS11 := Lib.hid hs11; have e4 : w11.cell? ⟨1, 0, none⟩ = some (.iface 320 (.pointer (some (eb 4)))) := hs11.err 4 (by decide); have q44 : (binOp .eql 32 (.iface 320 (.pointer (some (eb 4)))) (.iface 320 (.pointer (some (eb 4))))).run Tryz.prog w11 = .ok (.bool true) w11 := hs11.eql (c := 4) (d := 4) (by decide) (by decide); clear hs11))
              exact ⟨⟨i + 1, _, by go_num, by omega, HS11.out⟩, by simp [intOf]; omega⟩
      · obtain rfl : i = N := by omega
        go_wp2
        go_ret
        exact ⟨rfl, H0.out.2.trans HK.out.frm (fun _ _ h => h)⟩
end Go.Proofs.YtpckkdjdjkjapaaGreatDoor.Dw
