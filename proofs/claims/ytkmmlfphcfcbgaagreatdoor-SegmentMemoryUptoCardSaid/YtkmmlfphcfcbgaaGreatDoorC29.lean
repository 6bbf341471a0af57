/- A part of the proof of segmentMemoryUpto_holds: Me. No condition. -/
import Derived.Test.YtkmmlfphcfcbgaaGreatDoorC28

/- SegmentMemory walked. -/
namespace Go.Proofs.YtkmmlfphcfcbgaaGreatDoor.Dw
open Go.RowKit Go.ChangeMaps Go.Proofs.YtkmmlfphcfcbgaaGreatDoor.Mp Go.Proofs.YtkmmlfphcfcbgaaGreatDoor.Dm Go.Proofs.YtkmmlfphcfcbgaaGreatDoor.Da Go.Shelf
open Go.Proofs.YtkmmlfphcfcbgaaGreatDoor.Sg (SegS packE Over Group heavyN)
open Go.Proofs.YtkmmlfphcfcbgaaGreatDoorW.PrintWords (ReadsInt string_of_reads)
open Go.Proofs.YtkmmlfphcfcbgaaGreatDoorW.PrintLast
set_option linter.unusedVariables false
set_option linter.unusedSimpArgs false
set_option linter.unusedSectionVars false
def tail9 : List Int := (List.range 9).map fun k => ((208 + k : Nat) : Int)
theorem tail9_length : tail9.length = 9 := rfl
theorem tail9_get {k : Nat} (hk : k < 9) : tail9[k]? = some (((208 + k : Nat) : Int)) := by
  unfold tail9
  rw [List.getElem?_map, List.getElem?_range hk]; rfl
theorem tail9_succ {k : Nat} (hk : k < 9) : tail9.take (k + 1) = tail9.take k ++ [((208 + k : Nat) : Int)] := by
  rw [List.take_add_one, tail9_get hk]; rfl
def lenR (rs : List Sg.Bytes) (j : Nat) : Nat := (rs.getD j []).length
def X9 (rs : List Sg.Bytes) (j : Nat) : List Int := rs.getD j [] ++ tail9
theorem lenR_at {rs : List Sg.Bytes} {j : Nat} (hj : j < rs.length) : lenR rs j = rs[j].length := by
  unfold lenR; rw [List.getD_eq_getElem?_getD, List.getElem?_eq_getElem hj]; rfl
theorem X9_at {rs : List Sg.Bytes} {j : Nat} (hj : j < rs.length) : X9 rs j = rs[j] ++ tail9 := by
  unfold X9; rw [List.getD_eq_getElem?_getD, List.getElem?_eq_getElem hj]; rfl
theorem wrap9 {k : Nat} (hk : k < 9) : IntKind.u8.wrap (208 + (k : Int)) = ((208 + k : Nat) : Int) := by
  rw [IntKind.wrap_u8]; omega
set_option maxHeartbeats 4000000 in
set_option maxRecDepth 100000 in
theorem law_memory {w : World} {eb : Nat → Addr} {L : List Err} (he : ErrsAt w.heap.size w eb L) (hv : Env w.heap.size w L) (x : Nat) (hx : x < 18446744073709551616) (A : Option Addr) (c : Nat) (rs : List Sg.Bytes) (hr : RecsAt w A rs) (hc : rs.length ≤ c) (hl : rs.length ≤ 4611686018427387904)
    (hb : ∀ r, r ∈ rs → r.length ≤ 140737488355328 ∧ ∀ x, x ∈ r → 0 ≤ x ∧ x < 256) :
    Calls Tryz.prog 3 #[.int .u64 x, .slice A rs.length c] w fun e w' => e = .returned (.bool true) ∧ Frm (fun _ => False) w w' := by
  have KA := Lib.hid (awake_calls he hv)
  have KH : Hid (∀ W, Frm (fun _ => False) w W → _) := Lib.hid (fun W (hW : Frm (fun _ => False) w W) => heavy_one (hr.frm hW) hc hl hb)
  obtain ⟨N, hN⟩ : ∃ N, N = rs.length := ⟨_, rfl⟩
  have HE := Lib.hid (And.intro he (And.intro hv (And.intro hr (And.intro hN hb))))
  rw [← hN] at KH hc hl ⊢
  clear he hv hr hN hb
  have c0 : ((0 : Nat) : Int) = 0 := rfl
  by_cases hskip : 4194304 < heavyN [(rs, false)] ∨ x < 1 ∨ 2305843009213693952 < x
  · by_cases hh : 4194304 < heavyN [(rs, false)]
    · have hs1 : decide (4194304 < heavyN [(rs, false)]) = true := decide_eq_true hh
      simp only [hs1] at KH
      clear hskip hh hs1
      go_enter Tryz.func3, Tryz.ntmps3
      go_wp2_with (first
        | (go_at_call 10; (with_reducible refine KA.out.mono ?_); rintro e w1 ⟨rfl, hf1⟩; have H1 := Lib.hid hf1; clear hf1)
        | (go_at_call 11; (with_reducible refine (KH.out _ H1.out).mono ?_); rintro e w2 ⟨rfl, hf2⟩; have H2 := Lib.hid (H1.out.trans hf2 (fun _ _ h => h)); clear hf2))
      go_ret
      exact ⟨rfl, H2.out⟩
    · have hs1 : decide (4194304 < heavyN [(rs, false)]) = false := decide_eq_false hh
      simp only [hs1] at KH
      have h3 : x = 0 ∨ (1 ≤ x ∧ 2305843009213693952 < x) := by omega
      clear hskip hh hs1
      rcases h3 with h4 | ⟨h4, h5⟩
      · have hd1 : decide ((x : Int) < 1) = true := decide_eq_true (by omega)
        go_enter Tryz.func3, Tryz.ntmps3
        go_wp2_with (first
          | (go_at_call 10; (with_reducible refine KA.out.mono ?_); rintro e w1 ⟨rfl, hf1⟩; have H1 := Lib.hid hf1; clear hf1)
          | (go_at_call 11; (with_reducible refine (KH.out _ H1.out).mono ?_); rintro e w2 ⟨rfl, hf2⟩; have H2 := Lib.hid (H1.out.trans hf2 (fun _ _ h => h)); clear hf2))
        go_ret
        exact ⟨rfl, H2.out⟩
      · have hd1 : decide ((x : Int) < 1) = false := decide_eq_false (by omega)
        have hd2 : decide ((2305843009213693952 : Int) < (x : Int)) = true := decide_eq_true (by omega)
        go_enter Tryz.func3, Tryz.ntmps3
        go_wp2_with (first
          | (go_at_call 10; (with_reducible refine KA.out.mono ?_); rintro e w1 ⟨rfl, hf1⟩; have H1 := Lib.hid hf1; clear hf1)
          | (go_at_call 11; (with_reducible refine (KH.out _ H1.out).mono ?_); rintro e w2 ⟨rfl, hf2⟩; have H2 := Lib.hid (H1.out.trans hf2 (fun _ _ h => h)); clear hf2))
        go_ret
        exact ⟨rfl, H2.out⟩
  · have hs1 : decide (4194304 < heavyN [(rs, false)]) = false := decide_eq_false (fun h => hskip (Or.inl h))
    have hs3 : 1 ≤ x := by omega
    have hs4 : x ≤ 2305843009213693952 := by omega
    have hd1 : decide ((x : Int) < 1) = false := decide_eq_false (by omega)
    have hd2 : decide ((2305843009213693952 : Int) < (x : Int)) = false := decide_eq_false (by omega)
    have HV := Lib.hid (light_one (rs := rs) (by omega))
    have hN5 : N ≤ 524288 := by have := HV.out.1; have := HE.out.2.2.2.1; omega
    simp only [hs1] at KH
    clear hskip hs1
    have KC : Hid (∀ W, Frm (fun _ => False) w W → Calls Tryz.prog 13 #[dptr (W.heap.size + 2), .int .u64 x] (wBorn W) fun e w' => ∃ sb, e = .returned (.tuple #[.pointer (some ⟨sb, 0, none⟩), .nilIface]) ∧ MemAt (fun k => w'.heap.size ≤ k) W w' eb L sb x []) := Lib.hid (fun W hW =>
      mem_start (HE.out.1.up hW hW.size) (HE.out.2.1.up hW hW.size) x ⟨hs3, by omega⟩)
    go_enter Tryz.func3, Tryz.ntmps3
    go_wp2_with (first
      | (go_at_call 10; (with_reducible refine KA.out.mono ?_); rintro e w1 ⟨rfl, hf1⟩; have H1 := Lib.hid hf1; clear hf1)
      | (go_at_call 11; (with_reducible refine (KH.out _ H1.out).mono ?_); rintro e w2 ⟨rfl, hf2⟩; have H2 := Lib.hid (H1.out.trans hf2 (fun _ _ h => h)); clear hf2)
      | (go_at_call 12; (with_reducible refine (new_calls _).mono ?_); rintro e w3 ⟨rfl, rfl⟩)
      | (go_at_call 13; (with_reducible refine (KC.out _ H2.out).mono ?_); rintro e w4 ⟨sb, rfl, hs⟩; have HS := Lib.hid hs; clear hs))
    have H0 := Lib.hid (H2.out.trans HS.out.frm (fun _ _ h => h))
    clear KC KA KH
    go_loopw [9, 8] (fun iv gv wr => ∃ i, iv = .int .i64 (i : Nat) ∧ i ≤ N ∧ RowW (fun k => w4.heap.size ≤ k) wr w4.heap.size gv i (lenR rs) (X9 rs) ∧ Frm (fun _ => False) w4 wr) (fun iv _ _ => N - (intOf iv).toNat)
    case atStart => exact ⟨0, rfl, Nat.zero_le _, RowW.nil _ _ _ _ _, Frm.refl _ _⟩
    case round =>
      obtain ⟨i, rfl, hi, hrow, hfr⟩ := hrel
      obtain ⟨wo, hwo⟩ : ∃ wo, wo = wr := ⟨_, rfl⟩
      subst hwo
      have HR := Lib.hid (And.intro hrow hfr)
      obtain ⟨pg, cg, rfl, hcg⟩ := hrow.form
      clear hrow hfr
      by_cases hlt : i < N
      · obtain ⟨⟨g0, o0, s0⟩, p, cc, hA, r1, r2, r3⟩ := HE.out.2.2.1 i (by have := HE.out.2.2.2.1; omega)
        subst hA
        obtain rfl : s0 = none := HE.out.2.2.1.spot (by have := HE.out.2.2.2.1; omega)
        rw [addO] at r1
        obtain ⟨r, hrr⟩ : ∃ r, r = rs[i]'(by have := HE.out.2.2.2.1; omega) := ⟨_, rfl⟩
        rw [← hrr] at r1 r2 r3
        obtain ⟨l, hlr⟩ : ∃ l, l = r.length := ⟨_, rfl⟩
        rw [← hlr] at r1 r2
        have hl4 : l ≤ 4194304 := by rw [hlr, hrr]; exact HV.out.2 _ (List.getElem_mem _)
        have e0 := frmC (H0.out.trans HR.out.2 (fun _ _ h => h)) r1
        have HG := Lib.hid (And.intro hrr (And.intro hlr (And.intro r1 r3)))
        clear hrr hlr r1 r3
        obtain ⟨l9, hl9⟩ : ∃ l9, l9 = l + 9 := ⟨_, rfl⟩
        have HI9 : Hid ((l : Int) + 9 = (l9 : Int)) := Lib.hid (by omega)
        have hl9b : l9 ≤ 4194313 := by omega
        have HL9 := Lib.hid hl9
        clear hl9
        go_upto_region 15 with (first
          | (at_make; refine wpl_make_bytes rfl _ _ rfl _ _ _ _ 0 l9 rfl rfl rfl HI9.out (Nat.zero_le _) (by omega) ?_; intro w5 hr5 hf5; have H5 := Lib.hid (And.intro hr5 hf5); have e5 := frmC hf5 e0; clear hr5 hf5)
          | (at_builtin; go_loud (refine wpl_append_bytesN rfl _ _ rfl (v := .slice (some ⟨wo.heap.size, 0, none⟩) 0 l9) (base := wo.heap.size) (n := 0) (xs := []) (m := l) (N := l) (ys := r) rfl H5.out.1 rfl rfl (fromReads (reads_frm HG.out.2.2.2 (H0.out.trans (HR.out.2.trans H5.out.2 (fun _ _ h => h)) (fun _ _ h => h))) HG.out.2.1.symm) HG.out.2.1.symm (Nat.zero_add _) (by omega) H5.out.2.size ?_; intro p6 c6 w6 hr6 hg6; have H6 := Lib.hid (And.intro hr6 hg6); clear hr6 hg6)))
        have HB : Hid (w6.ownsRow wo.heap.size 5 1 (.slice p6 l c6) l (u8s r) ∧ Frm (fun _ => False) wo w6) := Lib.hid ⟨H6.out.1, H5.out.2.trans (grown_frm H6.out.2) (fun k hk e => by
          have : wo.heap.size = k := by simpa [Value.ownBlock] using e
          omega)⟩
        clear H5 H6
        go_wp2
        go_loopw [11, 10] (fun kv bv wx => ∃ k p c, kv = .int .i64 (k : Nat) ∧ bv = .slice p (l + k) c ∧ k ≤ 9 ∧ wx.ownsRow wo.heap.size 5 1 (.slice p (l + k) c) (l + k) (u8s (r ++ tail9.take k)) ∧ Frm (fun _ => False) wo wx) (fun kv _ _ => 9 - (intOf kv).toNat)
        case atStart => exact ⟨0, _, _, rfl, rfl, Nat.zero_le _, by simpa using HB.out.1, HB.out.2⟩
        case round =>
          obtain ⟨k, p7, c7, rfl, rfl, hk, ho7, hf7⟩ := hrel
          have H7 := Lib.hid (And.intro ho7 hf7)
          clear ho7 hf7
          by_cases hk9 : k < 9
          · have hw9 := wrap9 hk9
            obtain ⟨y, hy⟩ : ∃ y, y = ((208 + k : Nat) : Int) := ⟨_, rfl⟩
            rw [← hy] at hw9
            obtain ⟨lk, hlk⟩ : ∃ lk, lk = l + k := ⟨_, rfl⟩
            rw [← hlk] at H7 ⊢
            have hlkb : lk ≤ 4194313 := by omega
            have HY := Lib.hid hy
            have HLK := Lib.hid hlk
            have HXL : Hid ((r ++ tail9.take k).length = lk) := Lib.hid (by rw [List.length_append, ← HG.out.2.1, List.length_take, tail9_length, hlk]; omega)
            clear hlk hy
            go_wp2_with (at_builtin; go_loud (refine wpl_append_bytesN rfl _ _ rfl (v := .slice p7 lk c7) (base := wo.heap.size) (n := lk) (xs := r ++ tail9.take k) (m := 1) (N := lk + 1) (ys := [y]) rfl (own_frm H7.out.1 ((Frm.refl _ _).alloc _)) HXL.out rfl (Or.inr (Or.inl ⟨_, 0, 1, rfl, fun j u hu => by
              match j, hu with
              | 0, hu => cases hu; exact cell_of blk_alloc rfl
              | j + 1, hu => simp [u8s] at hu⟩)) rfl rfl (by omega) (by have := H7.out.2.size; rw [World.size_alloc]; omega) ?_; intro p8 c8 w8 hr8 hg8; have H8 := Lib.hid (And.intro hr8 hg8); clear hr8 hg8))
            have HX8 : Hid (w8.ownsRow wo.heap.size 5 1 (.slice p8 (l + (k + 1)) c8) (l + (k + 1)) (u8s (r ++ tail9.take (k + 1))) ∧ Frm (fun _ => False) wo w8) := Lib.hid ⟨by
              rw [show l + (k + 1) = lk + 1 by rw [HLK.out]; rfl, tail9_succ hk9, ← HY.out, ← List.append_assoc]
              exact H8.out.1, frm_grown (H7.out.2.trans ((Frm.refl _ _).alloc _) (fun _ _ h => h)) H8.out.2 (fun k hk => (own_low H7.out.1 hk).1)⟩
            exact ⟨⟨k + 1, _, _, by go_num, by rw [show l + (k + 1) = lk + 1 by rw [HLK.out]; rfl], by omega, HX8.out.1, HX8.out.2⟩, by simp [intOf]; omega⟩
          · obtain rfl : k = 9 := by omega
            obtain ⟨g7, c7', e7, hc7, hg7, hw7⟩ := row_shape H7.out.1 (by omega)
            simp only [Value.slice.injEq, true_and] at e7
            obtain ⟨rfl, rfl⟩ := e7
            have HB7 : Hid (Blk8 wr g7 c7 (X9 rs i)) := Lib.hid (by
              have := Blk8.of_own H7.out.1 (by rw [List.length_append, ← HG.out.2.1]; rfl)
              rw [X9_at (by have := HE.out.2.2.2.1; omega), ← HG.out.1]
              exact this)
            have HLN : Hid (l = lenR rs i ∧ lenR rs i ≤ (X9 rs i).length) := Lib.hid (by
              rw [X9_at (by have := HE.out.2.2.2.1; omega), lenR_at (by have := HE.out.2.2.2.1; omega), ← HG.out.1]
              exact ⟨HG.out.2.1, by simp⟩)
            have e7 := frmC H7.out.2 e0
            have hlc : l ≤ c7 := by omega
            go_wp2_with (at_builtin; go_loud (refine wpl_append_rowW rfl _ _ rfl (v := .slice pg i cg) (base := w4.heap.size) rfl HR.out.1 (H7.out.2.trans ((Frm.refl _ _).alloc _) (fun _ _ h => h)) rfl (cell_of blk_alloc rfl) HLN.out.1 (HB7.out.keep (blk_alloc_lt HB7.out.lt)) HLN.out.2 hg7 HR.out.2.size (by omega) ?_; intro p8 c8 w8 hr8 hg8 hbb; have H8 := Lib.hid (And.intro hr8 (And.intro hg8 hbb)); clear hr8 hg8 hbb))
            exact ⟨⟨i + 1, by go_num, by omega, H8.out.1, frm_grown (HR.out.2.trans (H7.out.2.trans ((Frm.refl _ _).alloc _) (fun _ _ h => h)) (fun _ _ h => h)) H8.out.2.1 H8.out.2.2⟩, by simp [intOf]; omega⟩
      · have hiN : N = i := by omega
        subst hiN
        have KAP : Hid (Calls Tryz.prog 14 #[.pointer (some ⟨sb, 0, none⟩), .slice pg N cg] wo fun e w' => ∃ ev tk fl, e = .returned ev ∧ ((∀ W, (binOp .eql 33 ev .nilIface).run Tryz.prog W = .ok (.bool tk) W) ∧ ∀ W x, (eqGuard .eql 33 x (.const .nilIface) ev .nilIface).run Tryz.prog W = .ok () W) ∧ (tk = true ∧ fl = rs ∨ tk = false ∧ fl = []) ∧ MemAt (fun k => w4.heap.size ≤ k ∧ k < wo.heap.size) w2 w' eb L sb x fl ∧ Frm (fun k => ¬ w4.heap.size ≤ k) wo w') := Lib.hid (by
          have := (HS.out.keep HR.out.2).append ⟨hs3, hs4⟩ pg cg rs (HR.out.1.recsAt HE.out.2.2.2.1 (fun j hj => lenR_at hj) (fun j hj k hk => by
            rw [X9_at hj, List.length_append]
            refine ⟨by omega, ?_⟩
            rw [List.getD_eq_getElem?_getD, List.getD_eq_getElem?_getD, List.getElem?_append_left hk])) (by have := HE.out.2.2.2.1; omega) HV.out.1 (fun r hr => (HE.out.2.2.2.2 r hr).2)
          rw [← HE.out.2.2.2.1] at this
          exact this)
        go_upto_region 21 with (first
          | (go_at_call 14; (with_reducible refine KAP.out.mono ?_); rintro e w9 ⟨ev, tk, fl, rfl, ⟨heq9, heg9⟩, hfl, hm9, hf9⟩; have HM := Lib.hid (And.intro hm9 (And.intro hf9 hfl)); clear hm9 hf9 hfl))
        have HG9 : Hid (RowW (fun k => w4.heap.size ≤ k ∧ k < wo.heap.size) w9 w4.heap.size (.slice pg N cg) N (lenR rs) (X9 rs)) := Lib.hid ((HR.out.1.mono (fun k h1 h2 h3 => And.intro h3 h1)).off HM.out.2.1 (fun k h1 h2 h3 h4 => h4 h2.1))
        have HW9 : Hid (Frm (fun _ => False) w w9) := Lib.hid (H2.out.trans HM.out.1.frm (fun _ _ h => h))
        clear heq9 heg9 KAP
        go_wp2
        go_loopw [13] (fun iv wr => ∃ i X, iv = .int .i64 (i : Nat) ∧ i ≤ N ∧ RowW (fun k => w4.heap.size ≤ k ∧ k < wo.heap.size) wr w4.heap.size (.slice pg N cg) N (lenR rs) X ∧ (∀ j, i ≤ j → j < N → X j = X9 rs j) ∧ Frm (fun k => w4.heap.size ≤ k ∧ k < wo.heap.size) w9 wr) (fun iv _ => N - (intOf iv).toNat)
        case atStart => exact ⟨0, _, rfl, Nat.zero_le _, HG9.out, fun _ _ _ => rfl, Frm.refl _ _⟩
        case round =>
          obtain ⟨i, X, rfl, hi, hrow, hX, hfr⟩ := hrel
          obtain ⟨wp, hwp⟩ : ∃ wp, wp = wr := ⟨_, rfl⟩
          subst hwp
          have HRP := Lib.hid (And.intro hrow (And.intro hX hfr))
          clear hrow hX hfr
          by_cases hlt : i < N
          · obtain ⟨gr, c1, g, cap, eS, q1, m1, q3, q4, q5, q6, q7, q8, q9, q10, q11, hup, _⟩ := HRP.out.1.at_ hlt
            simp only [Value.slice.injEq, true_and] at eS
            obtain ⟨rfl, rfl⟩ := eS
            obtain ⟨⟨g0, o0, s0⟩, p, cc, hA, r1, r2, r3⟩ := HE.out.2.2.1 i (by have := HE.out.2.2.2.1; omega)
            subst hA
            obtain rfl : s0 = none := HE.out.2.2.1.spot (by have := HE.out.2.2.2.1; omega)
            rw [addO] at r1
            obtain ⟨r, hrr⟩ : ∃ r, r = rs[i]'(by have := HE.out.2.2.2.1; omega) := ⟨_, rfl⟩
            rw [← hrr] at r1 r2 r3
            have hXi := HRP.out.2.1 i (Nat.le_refl _) hlt
            rw [X9_at (by have := HE.out.2.2.2.1; omega), ← hrr] at hXi
            rw [hXi] at q4
            rw [lenR_at (by have := HE.out.2.2.2.1; omega), ← hrr] at m1
            have hWP : Frm (fun _ => False) w wp := HW9.out.trans HRP.out.2.2 (fun k hk h => by have := H0.out.size; omega)
            have e0 := frmC hWP r1
            have hcap : r.length + 9 ≤ cap := by have := q4.le; rw [List.length_append] at this; exact this
            have hr4 : r.length ≤ 4194304 := by rw [hrr]; exact HV.out.2 _ (List.getElem_mem _)
            obtain ⟨l, hl'⟩ : ∃ l, l = r.length := ⟨_, rfl⟩
            rw [← hl'] at m1 r1 r2 e0 hcap hr4
            have HQ := Lib.hid (And.intro hrr (And.intro hl' (And.intro hup (And.intro q4 (And.intro q6 (And.intro q7 hXi))))))
            have Z : Hid (∀ W, Frm (fun _ => False) wp W → W.cell? ⟨gr, i, none⟩ = some (.slice (some ⟨g, 0, none⟩) l cap) ∧ W.cell? ⟨g0, o0 + i, none⟩ = some (.slice p l cc) ∧ (convert 36 9 (.slice (some ⟨g, 0, none⟩) l cap)).run Tryz.prog W = .ok (.string (strOfNums r)) W ∧ (convert 36 9 (.slice p l cc)).run Tryz.prog W = .ok (.string (strOfNums r)) W ∧ Blk8 W g cap (r ++ tail9)) := Lib.hid (fun W hW => by
              have q4' := q4.off hW id
              refine ⟨frmC hW m1, frmC hW e0, ?_, ?_, q4'⟩
              · rw [HQ.out.2.1]
                exact string_of_reads Tryz.underlying36 Tryz.underlying5 Tryz.underlying9 (q4'.front (ys := r) rfl (fun j hj => ⟨by rw [List.length_append]; omega, by rw [List.getD_eq_getElem?_getD, List.getD_eq_getElem?_getD, List.getElem?_append_left hj]⟩))
              · rw [HQ.out.2.1]
                exact string_of_reads Tryz.underlying36 Tryz.underlying5 Tryz.underlying9 (reads_frm r3 (hWP.trans hW (fun _ _ h => h))))
            clear q3 q4 q5 q6 q7 q8 q9 q10 q11 hup hrr hl' hXi r1 r3 hWP
            go_upto_region 24 with (fail)
            go_quiet (fail)
            obtain ⟨wq, hwq⟩ : ∃ wq, wq = wp.drewN nq := ⟨_, rfl⟩
            rw [← hwq]
            have HQ1 : Hid (Frm (fun _ => False) wp wq) := Lib.hid (by rw [hwq]; exact (Frm.refl _ _).drewN _)
            clear hwq nq m1 e0
            have Z4 : ∀ W, Frm (fun _ => False) wp W → W.cell? ⟨gr, i, none⟩ = some (.slice (some ⟨g, 0, none⟩) l cap) ∧ W.cell? ⟨g0, o0 + i, none⟩ = some (.slice p l cc) ∧ (convert 36 9 (.slice (some ⟨g, 0, none⟩) l cap)).run Tryz.prog W = .ok (.string (strOfNums r)) W ∧ (convert 36 9 (.slice p l cc)).run Tryz.prog W = .ok (.string (strOfNums r)) W := fun W hW =>
              ⟨(Z.out W hW).1, (Z.out W hW).2.1, (Z.out W hW).2.2.1, (Z.out W hW).2.2.2.1⟩
            have S0 := Lib.hid (Z4 wq HQ1.out)
            have D0 := Lib.hid (Z4 wq.drew HQ1.out.drew)
            have hstr : ((strOfNums r).toList == (strOfNums r).toList) = true := by simp
            clear Z4
            go_upto_region 25 with (fail)
            go_region_held3 (fun W => W.cell? ⟨gr, i, none⟩ = some (.slice (some ⟨g, 0, none⟩) l cap) ∧ W.cell? ⟨g0, o0 + i, none⟩ = some (.slice p l cc) ∧ (convert 36 9 (.slice (some ⟨g, 0, none⟩) l cap)).run Tryz.prog W = .ok (.string (strOfNums r)) W ∧ (convert 36 9 (.slice p l cc)).run Tryz.prog W = .ok (.string (strOfNums r)) W)
              (first | exact S0.out | exact D0.out | go_keep) (fail)
            obtain ⟨wu, hwu⟩ : ∃ wu, wu = wq.drew := ⟨_, rfl⟩
            rw [← hwu]
            have HQ2 : Hid (Frm (fun _ => False) wp wu) := Lib.hid (by rw [hwu]; exact HQ1.out.drew)
            clear hwu HQ1 hstr S0 D0
            go_wp2
            go_loopw [15] (fun kv wr => ∃ k, kv = .int .i64 (k : Nat) ∧ k ≤ 9 ∧ Frm (fun _ => False) wp wr) (fun kv _ => 9 - (intOf kv).toNat)
            case atStart => exact ⟨0, rfl, Nat.zero_le _, HQ2.out⟩
            case round =>
              obtain ⟨k, rfl, hk, hfk⟩ := hrel
              by_cases hk9 : k < 9
              · obtain ⟨m1, _, _, _, hb⟩ := Z.out wr hfk
                have HFK := Lib.hid hfk
                have hw9 := wrap9 hk9
                obtain ⟨y, hy⟩ : ∃ y, y = ((208 + k : Nat) : Int) := ⟨_, rfl⟩
                have hcl : wr.cell? ⟨g, l + k, none⟩ = some (.int .u8 y) := by
                  rw [hb.cell (by rw [List.length_append, ← HQ.out.2.1, tail9_length]; omega), List.getD_eq_getElem?_getD, List.getElem?_append_right (by rw [← HQ.out.2.1]; omega), ← HQ.out.2.1, Nat.add_sub_cancel_left, tail9_get hk9, ← hy]
                  rfl
                rw [← hy] at hw9
                have hlk : l + k < l + 9 := by omega
                have hlkc : l + k < cap := by omega
                clear hb hfk hy
                go_wp2
                exact ⟨⟨k + 1, by go_num, by omega, HFK.out⟩, by simp [intOf]; omega⟩
              · have HFK := Lib.hid hfk
                obtain ⟨wv, hwv⟩ : ∃ wv, wv = wr := ⟨_, rfl⟩
                subst hwv
                obtain rfl : k = 9 := by omega
                have hB5 : Hid (Blk8 wv g cap (r ++ tail9)) := Lib.hid (Z.out wv hfk).2.2.2.2
                clear hfk
                go_wp2
                go_loopw [16] (fun kv wr => ∃ k ys, kv = .int .i64 (k : Nat) ∧ k ≤ l + 9 ∧ Frm (fun j => j = g) wv wr ∧ Blk8 wr g cap ys ∧ ys.length = l + 9) (fun kv _ => (l + 9) - (intOf kv).toNat)
                case atStart => exact ⟨0, _, rfl, Nat.zero_le _, Frm.refl _ _, hB5.out, by rw [List.length_append, ← HQ.out.2.1]; rfl⟩
                case round =>
                  obtain ⟨k, ys, rfl, hk2, hf5, hb5, hy5⟩ := hrel
                  by_cases hkl : k < l + 9
                  · have m1 := hb5.cell (j := k) (by omega)
                    have m2 := hb5.frozen (j := k) (by omega)
                    have HK5 : Hid (Frm (fun j => j = g) wv (wr.setCell ⟨g, k, none⟩ (.int .u8 119)) ∧ Blk8 (wr.setCell ⟨g, k, none⟩ (.int .u8 119)) g cap (ys.set k 119) ∧ (ys.set k 119).length = l + 9) := Lib.hid ⟨hf5.setCell _ _ (fun _ => rfl), hb5.set k 119, by rw [List.length_set]; exact hy5⟩
                    have hkc : k < cap := by omega
                    clear hf5 hb5 hy5
                    go_wp2
                    exact ⟨⟨k + 1, _, by go_num, by omega, HK5.out.1, HK5.out.2.1, HK5.out.2.2⟩, by simp [intOf]; omega⟩
                  · obtain rfl : k = l + 9 := by omega
                    have HUP : Hid (RowW (fun k => w4.heap.size ≤ k ∧ k < wo.heap.size) wr w4.heap.size (.slice (some ⟨gr, 0, none⟩) N cg) N (lenR rs) (fun j => if j = i then ys else X j) ∧ Frm (fun k => w4.heap.size ≤ k ∧ k < wo.heap.size) w9 wr) := Lib.hid (by
                      have hpv : Frm (fun k => k = g) wp wr := (HFK.out.mono (fun _ _ h => h.elim)).trans hf5 (fun _ _ h => h)
                      refine ⟨HQ.out.2.2.1 wr ys hpv hb5 (by rw [hy5, lenR_at (by have := HE.out.2.2.2.1; omega), ← HQ.out.1, HQ.out.2.1]; omega), HRP.out.2.2.trans hpv (fun k _ e => by rw [e]; exact HQ.out.2.2.2.2.2.1)⟩)
                    clear hf5 hb5
                    go_wp2
                    exact ⟨⟨i + 1, _, by go_num, by omega, HUP.out.1, fun j hj hjN => by rw [if_neg (by omega)]; exact HRP.out.2.1 j (by omega) hjN, HUP.out.2⟩, by simp [intOf]; omega⟩
          · have hiN : N = i := by omega
            subst hiN
            obtain ⟨F, hF⟩ : ∃ F, F = fl.length := ⟨_, rfl⟩
            have KO : Hid (∀ W Z sb, MemAt Z w2 W eb L sb x fl → Calls Tryz.prog 15 #[dptr (w2.heap.size + 2), .int .u64 x] W fun e w' => ∃ sb2 p c, e = .returned (.tuple #[.pointer (some ⟨sb2, 0, none⟩), .slice p F c, .nilIface]) ∧ F ≤ c ∧ MemAt (fun _ => False) w2 w' eb L sb2 x fl ∧ RecsOwn w' W.heap.size (.slice p F c) fl ∧ Frm (fun _ => False) W w') := Lib.hid (fun W Z sb hW => by
              have := hW.open_ ⟨hs3, hs4⟩
              rw [← hF] at this
              exact this)
            have HM9 := Lib.hid (HM.out.1.off HRP.out.2.2 (fun k hk => ⟨hk, by have := HS.out.low; omega⟩))
            have KO1 := Lib.hid (KO.out _ _ _ HM9.out)
            have HFL := Lib.hid hF
            clear hF
            go_upto_region 38 with (first
              | (go_at_call 15; (with_reducible refine KO1.out.mono ?_); rintro e wa ⟨sa, pa, ca, rfl, hca, hma, hra, hfa⟩; have HA := Lib.hid (And.intro hma (And.intro hra (And.intro hfa hca))); have KO2 := Lib.hid (KO.out _ _ _ hma); clear hma hra hfa)
              | (go_at_call 15; (with_reducible refine KO2.out.mono ?_); rintro e wb ⟨sb2, pb, cb, rfl, hcb, hmb, hrb, hfb⟩; have HB := Lib.hid (And.intro hmb (And.intro hrb (And.intro hfb hcb))); clear hmb hrb hfb))
            have HWB : Hid (Frm (fun _ => False) w wb) := Lib.hid (((HW9.out.trans HRP.out.2.2 (fun k hk h => by have := H0.out.size; omega)).trans HA.out.2.2.1 (fun _ _ h => h)).trans HB.out.2.2.1 (fun _ _ h => h))
            rcases HM.out.2.2 with ⟨htk, hfl⟩ | ⟨htk, hfl⟩
            · subst htk
              have hFN : N = F := by rw [HFL.out, hfl]; exact HE.out.2.2.2.1
              subst hFN
              have HA1 : Hid (RecsOwn wa wp.heap.size (.slice pa N ca) rs) := Lib.hid (by rw [← hfl]; exact HA.out.2.1)
              have HB1 : Hid (RecsOwn wb wa.heap.size (.slice pb N cb) rs) := Lib.hid (by rw [← hfl]; exact HB.out.2.1)
              clear hfl
              have KLI : Hid (∀ W p c2, Frm (fun _ => False) w W → RecsAt W p rs → N ≤ c2 → Calls Tryz.prog 16 #[.slice p N c2, .slice A N c] W fun e w' => e = .returned (.bool true) ∧ Frm (fun _ => False) W w') := Lib.hid (fun W p c2 hW hp hc2 => by
                have hN := HE.out.2.2.2.1
                have := lists_calls W p A c2 c rs rs hp (HE.out.2.2.1.frm hW) (by omega) (by omega) (by omega) (by omega) (fun r hr => (HE.out.2.2.2.2 r hr).2) (fun r hr => (HE.out.2.2.2.2 r hr).2)
                rwa [decide_eq_true rfl, ← hN] at this)
              have KL1 := Lib.hid (KLI.out wb pa ca HWB.out (HA1.out.frm HB.out.2.2.1).recsAt hca)
              go_upto_region 40 with (first
                | (go_at_call 16; (with_reducible refine KL1.out.mono ?_); rintro e wc ⟨rfl, hfc⟩; have HC := Lib.hid hfc; clear hfc))
              have HRA : Hid (RowW (fun k => wp.heap.size ≤ k ∧ ¬ (wa.heap.size ≤ k ∧ k < wc.heap.size)) wc wp.heap.size (.slice pa N ca) N (lenR rs) (fun j => rs.getD j [])) := Lib.hid (by
                have := HA1.out.rowB.mono (T := fun k => wp.heap.size ≤ k ∧ ¬ (wa.heap.size ≤ k ∧ k < wc.heap.size)) (fun k h1 h2 h3 => ⟨h3, fun h => by omega⟩)
                rw [← HE.out.2.2.2.1] at this
                exact (this.frm HB.out.2.2.1).frm HC.out)
              have HRB : Hid (RowW (fun k => wa.heap.size ≤ k ∧ k < wc.heap.size) wc wa.heap.size (.slice pb N cb) N (lenR rs) (fun j => rs.getD j [])) := Lib.hid (by
                have := (HB1.out.frm HC.out).rowB.mono (T := fun k => wa.heap.size ≤ k ∧ k < wc.heap.size) (fun k h1 h2 h3 => ⟨h3, h1⟩)
                rw [← HE.out.2.2.2.1] at this
                exact this)
              clear KL1 KO1 KO2 KO HA1 HB1
              go_wp2
              go_loopw [22] (fun iv wr => ∃ i X, iv = .int .i64 (i : Nat) ∧ i ≤ N ∧ RowW (fun k => wp.heap.size ≤ k ∧ ¬ (wa.heap.size ≤ k ∧ k < wc.heap.size)) wr wp.heap.size (.slice pa N ca) N (fun j => if j < i then lenR rs j + 3 else lenR rs j) X ∧ (∀ j, j < i → X j = List.replicate (lenR rs j + 3) (IntKind.u8.wrap (j : Int))) ∧ Frm (fun k => wp.heap.size ≤ k ∧ ¬ (wa.heap.size ≤ k ∧ k < wc.heap.size)) wc wr) (fun iv _ => N - (intOf iv).toNat)
              case atStart => exact ⟨0, _, rfl, Nat.zero_le _, HRA.out.congr (fun j _ => by simp) (fun _ _ => rfl), fun j hj => absurd hj (Nat.not_lt_zero _), Frm.refl _ _⟩
              case round =>
                obtain ⟨i, X, rfl, hi, hrow, hX, hfr⟩ := hrel
                obtain ⟨we, hwe⟩ : ∃ we, we = wr := ⟨_, rfl⟩
                subst hwe
                have HRE := Lib.hid (And.intro hrow (And.intro hX hfr))
                clear hrow hX hfr
                by_cases hlt : i < N
                · obtain ⟨gr, c1, g, cap, eS, q1, m1, q3, q4, q5, q6, q7, q8, q9, q10, q11, _, hup⟩ := HRE.out.1.at_ hlt
                  simp only [Value.slice.injEq, true_and] at eS
                  obtain ⟨rfl, rfl⟩ := eS
                  simp only [Nat.lt_irrefl, if_false] at m1 q5
                  have hr4 : lenR rs i ≤ 4194304 := by rw [lenR_at (by have := HE.out.2.2.2.1; omega)]; exact HV.out.2 _ (List.getElem_mem _)
                  obtain ⟨l, hl'⟩ : ∃ l, l = lenR rs i := ⟨_, rfl⟩
                  rw [← hl'] at m1 q5 hr4
                  obtain ⟨y, hy⟩ : ∃ y, y = IntKind.u8.wrap (i : Int) := ⟨_, rfl⟩
                  have HY := Lib.hid hy
                  have hy2 := hy.symm
                  have hlcap : l ≤ cap := by have := q4.le; omega
                  have HQE := Lib.hid (And.intro hup (And.intro q4 (And.intro q5 (And.intro hl' (And.intro q6 (And.intro q7 (And.intro q9 (And.intro q8 (And.intro q10 q3)))))))))
                  clear q3 q4 q5 q6 q7 q8 q9 q10 hup hl' hy
                  go_wp2
                  go_loopw [23] (fun kv wr => ∃ k ys, kv = .int .i64 (k : Nat) ∧ k ≤ l ∧ Frm (fun j => j = g) we wr ∧ Blk8 wr g cap ys ∧ l ≤ ys.length ∧ ∀ q, q < k → ys.getD q 0 = y) (fun kv _ => l - (intOf kv).toNat)
                  case atStart => exact ⟨0, _, rfl, Nat.zero_le _, Frm.refl _ _, HQE.out.2.1, HQE.out.2.2.1, fun q hq => absurd hq (Nat.not_lt_zero _)⟩
                  case round =>
                    obtain ⟨k, ys, rfl, hk, hf7, hb7, hy7, hq7⟩ := hrel
                    have m3 := cellF hf7 m1 (fun e => HQE.out.2.2.2.2.2.2.2.2.1 e)
                    by_cases hkl : k < l
                    · have m4 := hb7.cell (j := k) (by omega)
                      have m5 := hb7.frozen (j := k) (by omega)
                      have HK7 : Hid (Frm (fun j => j = g) we (wr.setCell ⟨g, k, none⟩ (.int .u8 y)) ∧ Blk8 (wr.setCell ⟨g, k, none⟩ (.int .u8 y)) g cap (ys.set k y) ∧ l ≤ (ys.set k y).length ∧ ∀ q, q < k + 1 → (ys.set k y).getD q 0 = y) := Lib.hid ⟨hf7.setCell _ _ (fun _ => rfl), hb7.set k y, by rw [List.length_set]; exact hy7, fun q hq => by
                        by_cases e : k = q
                        · subst e
                          rw [List.getD_eq_getElem?_getD, List.getElem?_set_self (by omega)]; rfl
                        · rw [List.getD_eq_getElem?_getD, List.getElem?_set_ne e, ← List.getD_eq_getElem?_getD]
                          exact hq7 q (by omega)⟩
                      have hkc : k < cap := by omega
                      clear hf7 hb7 hy7 hq7
                      go_wp2
                      exact ⟨⟨k + 1, _, by go_num, by omega, HK7.out.1, HK7.out.2.1, HK7.out.2.2.1, HK7.out.2.2.2⟩, by simp [intOf]; omega⟩
                    · have hkl2 : l = k := by omega
                      subst hkl2
                      obtain ⟨wf, hwf⟩ : ∃ wf, wf = wr := ⟨_, rfl⟩
                      subst hwf
                      have H7 := Lib.hid (And.intro hf7 (And.intro hb7 (And.intro hy7 hq7)))
                      have HX8 : Hid (ys.take l ++ [y, y, y] = List.replicate (l + 3) y) := Lib.hid (by
                        have e : ys.take l = List.replicate l y := by
                          apply List.ext_getElem
                          · rw [List.length_take, List.length_replicate]; omega
                          · intro q h1 h2
                            rw [List.getElem_take, List.getElem_replicate]
                            have := hq7 q (by rw [List.length_replicate] at h2; omega)
                            rw [List.getD_eq_getElem?_getD, List.getElem?_eq_getElem (by rw [List.length_take] at h1; omega)] at this
                            exact this
                        rw [e, show [y, y, y] = List.replicate 3 y from rfl, List.replicate_append_replicate])
                      clear hf7 hb7 hy7 hq7
                      go_wp2_with (at_builtin; go_loud (refine wpl_append_three rfl _ _ rfl (g := g) (l := l) (cap := cap) (b := wf.heap.size) (ys := ys) (y := y) (H7.out.2.1.keep (blk_alloc_lt H7.out.2.1.lt)) H7.out.2.2.1 (Nat.le_trans hr4 (by decide)) rfl rfl blk_alloc (Nat.ne_of_gt H7.out.2.1.lt) ?_; intro g8 cap8 w8 hb8 hg8 hf8; have HF8 : Hid (Frm (fun j => j = g) we w8) := Lib.hid ((H7.out.1.trans ((Frm.refl (fun j => j = g) _).alloc _) (fun _ _ h => h)).trans hf8 (fun _ _ h => h)); have m8 := cellF HF8.out m1 (fun e => HQE.out.2.2.2.2.2.2.2.2.1 e); have z8 : w8.frozen? ⟨gr, i, none⟩ = false := (World.frozen?_of_block (HF8.out.block gr (World.block_lt_of_cell? _ _ m1) (fun e => HQE.out.2.2.2.2.2.2.2.2.1 e))).trans HQE.out.2.2.2.2.2.2.2.2.2; have H8 := Lib.hid (And.intro hb8 hg8); clear hb8 hg8 hf8))
                      have hlen3 : l + 3 ≤ (ys.take l ++ [y, y, y]).length := by
                        rw [HX8.out, List.length_replicate]; exact Nat.le_refl _
                      have hsz8 : wc.heap.size ≤ wf.heap.size := Nat.le_trans HRE.out.2.2.size H7.out.1.size
                      have hg9 : g8 = g ∨ we.heap.size ≤ g8 := H8.out.2.imp id (fun h => by
                        rw [World.size_alloc] at h
                        have := H7.out.1.size; omega)
                      have hS8 : wp.heap.size ≤ g8 ∧ ¬ (wa.heap.size ≤ g8 ∧ g8 < wc.heap.size) := by
                        rcases H8.out.2 with h | h
                        · rw [h]; exact HQE.out.2.2.2.2.2.1
                        · rw [World.size_alloc] at h
                          have h1 := HA.out.2.2.1.size
                          have h2 := HB.out.2.2.1.size
                          have h3 := HC.out.size
                          exact ⟨by omega, fun h4 => by omega⟩
                      have HUP8 : Hid (RowW (fun k => wp.heap.size ≤ k ∧ ¬ (wa.heap.size ≤ k ∧ k < wc.heap.size)) (w8.setCell ⟨gr, i, none⟩ (.slice (some ⟨g8, 0, none⟩) (l + 3) cap8)) wp.heap.size (.slice (some ⟨gr, 0, none⟩) N ca) N (fun j => if j < i + 1 then lenR rs j + 3 else lenR rs j) (fun j => if j = i then List.replicate (lenR rs i + 3) y else X j)) := Lib.hid (by
                        refine (HQE.out.1 w8 g8 cap8 (l + 3) _ HF8.out H8.out.1 hlen3 hg9 hS8.1 hS8).congr (fun j hj => ?_) (fun j hj => ?_)
                        · by_cases e : j = i
                          · rw [if_pos e, if_pos (by omega), HQE.out.2.2.2.1, e]
                          · rw [if_neg e]
                            by_cases e2 : j < i
                            · rw [if_pos e2, if_pos (by omega)]
                            · rw [if_neg e2, if_neg (by omega)]
                        · rw [HX8.out, HQE.out.2.2.2.1])
                      have HX9 : Hid (∀ j, j < i + 1 → (if j = i then List.replicate (lenR rs i + 3) y else X j) = List.replicate (lenR rs j + 3) (IntKind.u8.wrap (j : Int))) := Lib.hid (fun j hj => by
                        by_cases e : j = i
                        · rw [if_pos e, e, ← HY.out]
                        · rw [if_neg e]
                          exact HRE.out.2.1 j (by omega))
                      have HF9 : Hid (Frm (fun k => wp.heap.size ≤ k ∧ ¬ (wa.heap.size ≤ k ∧ k < wc.heap.size)) wc (w8.setCell ⟨gr, i, none⟩ (.slice (some ⟨g8, 0, none⟩) (l + 3) cap8))) := Lib.hid ((HRE.out.2.2.trans HF8.out (fun k _ e => by rw [e]; exact HQE.out.2.2.2.2.2.1)).setCell _ _ (fun _ => HQE.out.2.2.2.2.2.2.1))
                      clear hlen3 hsz8 hg9 hS8
                      exact ⟨⟨i + 1, _, by go_num, by omega, HUP8.out, HX9.out, HF9.out⟩, by simp [intOf]; omega⟩
                · have hiN : N = i := by omega
                  subst hiN
                  have HWE : Hid (Frm (fun _ => False) w we) := Lib.hid (((HWB.out.trans HC.out (fun _ _ h => h)).trans HRE.out.2.2 (fun k hk h => by
                    have h1 := H0.out.size
                    have h2 := HR.out.2.size
                    have h3 := HRP.out.2.2.size
                    have h4 := HM.out.2.1.size
                    omega)))
                  go_wp2
                  go_loopw [24] (fun iv wr => ∃ i, iv = .int .i64 (i : Nat) ∧ i ≤ N ∧ Frm (fun _ => False) we wr) (fun iv _ => N - (intOf iv).toNat)
                  case atStart => exact ⟨0, rfl, Nat.zero_le _, Frm.refl _ _⟩
                  case round =>
                    obtain ⟨i, rfl, hi, hfr⟩ := hrel
                    obtain ⟨wg, hwg⟩ : ∃ wg, wg = wr := ⟨_, rfl⟩
                    subst hwg
                    have HFG := Lib.hid hfr
                    clear hfr
                    by_cases hlt : i < N
                    · obtain ⟨gr, c1, g, cap, eS, q1, m1, q3, q4, q5, q6, q7, q8, q9, q10, q11, _, _⟩ := (HRE.out.1.frm HFG.out).at_ hlt
                      simp only [Value.slice.injEq, true_and] at eS
                      obtain ⟨rfl, rfl⟩ := eS
                      have hXi := HRE.out.2.1 i hlt
                      rw [hXi] at q4
                      simp only [hlt, if_true] at m1
                      have hr4 : lenR rs i ≤ 4194304 := by rw [lenR_at (by have := HE.out.2.2.2.1; omega)]; exact HV.out.2 _ (List.getElem_mem _)
                      obtain ⟨l3, hl3⟩ : ∃ l3, l3 = lenR rs i + 3 := ⟨_, rfl⟩
                      rw [← hl3] at m1 q4
                      obtain ⟨y, hy⟩ : ∃ y, y = IntKind.u8.wrap (i : Int) := ⟨_, rfl⟩
                      rw [← hy] at q4
                      have hy2 := hy.symm
                      have hlcap : l3 ≤ cap := by have := q4.le; rw [List.length_replicate] at this; omega
                      have hl3b : l3 ≤ 4194307 := by omega
                      have HQ4 := Lib.hid q4
                      clear q3 q4 q5 q6 q7 q8 q9 q10 q11 hXi hl3 hy hr4
                      go_wp2
                      go_loopw [25] (fun kv wr => ∃ k, kv = .int .i64 (k : Nat) ∧ k ≤ l3 ∧ Frm (fun _ => False) wg wr) (fun kv _ => l3 - (intOf kv).toNat)
                      case atStart => exact ⟨0, rfl, Nat.zero_le _, Frm.refl _ _⟩
                      case round =>
                        obtain ⟨k, rfl, hk, hf7⟩ := hrel
                        have m3 := frmC hf7 m1
                        by_cases hkl : k < l3
                        · have m4 : wr.cell? ⟨g, k, none⟩ = some (.int .u8 y) := by
                            have := (HQ4.out.off hf7 id).cell (j := k) (by rw [List.length_replicate]; exact hkl)
                            rw [this, List.getD_eq_getElem?_getD, List.getElem?_replicate, if_pos hkl]
                            rfl
                          have HF7 := Lib.hid hf7
                          have hkc : k < cap := by omega
                          clear hf7
                          go_wp2
                          exact ⟨⟨k + 1, by go_num, by omega, HF7.out⟩, by simp [intOf]; omega⟩
                        · have HF7 := Lib.hid hf7
                          have hkl2 : l3 = k := by omega
                          subst hkl2
                          clear hf7
                          go_wp2
                          exact ⟨⟨i + 1, by go_num, by omega, HFG.out.trans HF7.out (fun _ _ h => h)⟩, by simp [intOf]; omega⟩
                    · have hiN : N = i := by omega
                      subst hiN
                      have HRB2 : Hid (RecsAt wg pb rs) := Lib.hid (by
                        have h1 := (HRB.out.off HRE.out.2.2 (fun k hk h1 h2 h3 => h3.2 h1)).frm HFG.out
                        refine h1.recsAt HE.out.2.2.2.1 (fun j hj => lenR_at hj) (fun j hj k hk => ?_)
                        have e : rs.getD j [] = rs[j] := by rw [List.getD_eq_getElem?_getD, List.getElem?_eq_getElem hj]; rfl
                        simp only [e]
                        exact ⟨hk, trivial⟩)
                      have KL2 := Lib.hid (KLI.out wg pb cb (HWE.out.trans HFG.out (fun _ _ h => h)) HRB2.out HB.out.2.2.2)
                      go_wp2_with (go_at_call 16; (with_reducible refine KL2.out.mono ?_); rintro e wh ⟨rfl, hfh⟩; have HH := Lib.hid hfh; clear hfh)
                      go_ret
                      exact ⟨rfl, (HWE.out.trans HFG.out (fun _ _ h => h)).trans HH.out (fun _ _ h => h)⟩
            · subst htk
              have hF0 : F = 0 := by rw [HFL.out, hfl]; rfl
              subst hF0
              clear hfl
              go_wp2
              go_loopw [22] (fun iv wr => iv = .int .i64 0 ∧ wr = wb) (fun _ _ => 0)
              case atStart => exact ⟨rfl, rfl⟩
              case round =>
                obtain ⟨rfl, rfl⟩ := hrel
                go_wp2
                go_loopw [24] (fun iv w' => iv = .int .i64 0 ∧ w' = wr) (fun _ _ => 0)
                case atStart => exact ⟨rfl, rfl⟩
                case round =>
                  obtain ⟨rfl, rfl⟩ := hrel
                  go_wp2
                  go_ret
                  exact ⟨rfl, HWB.out⟩
end Go.Proofs.YtkmmlfphcfcbgaaGreatDoor.Dw
