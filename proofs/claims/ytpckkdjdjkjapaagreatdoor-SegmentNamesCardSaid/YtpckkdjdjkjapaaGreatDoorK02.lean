/- A part of the proof of segmentNames_holds: Sw. No condition. -/
import Derived.Test.YtpckkdjdjkjapaaGreatDoorK01

/- SegmentNames walked (printed by wip/tools/gen_names.py). -/
namespace Go.Proofs.YtpckkdjdjkjapaaGreatDoor.Dw
open Go.RowKit Go.ChangeMaps Go.Proofs.YtpckkdjdjkjapaaGreatDoor.Mp Go.Proofs.YtpckkdjdjkjapaaGreatDoor.Dm Go.Proofs.YtpckkdjdjkjapaaGreatDoor.Da Go.Shelf
open Go.Proofs.YtpckkdjdjkjapaaGreatDoorW.PrintWords (ReadsInt string_of_reads)
set_option linter.unusedVariables false
set_option linter.unusedSimpArgs false
set_option linter.unusedSectionVars false
theorem firstV_none {s : ByteArray} (h : Sg.firstOf (bl s) = none) : FirstV s = .tuple #[.int .u64 0, .bool false] := by unfold FirstV; rw [h]; rfl
theorem firstV_some {s : ByteArray} {y : Nat} (h : Sg.firstOf (bl s) = some y) : FirstV s = .tuple #[.int .u64 y, .bool true] := by unfold FirstV; rw [h]; rfl
set_option maxHeartbeats 4000000 in
set_option maxRecDepth 100000 in
theorem law_names {w : World} {eb : Nat → Addr} {L : List Err} (he : ErrsAt w.heap.size w eb L) (hv : Env w.heap.size w L) (hn : NumErrs w) (x : Nat) (hx : x < 18446744073709551616) (s : ByteArray) (hs : s.size ≤ 140737488355328) :
    Calls Tryz.prog 7 #[.int .u64 x, .string s] w fun e w' => e = .returned (.bool true) ∧ Frm (fun _ => False) w w' := by
  have KA := Lib.hid (awake_calls he hv)
  have KF := Lib.hid (fun W (hW : Frm (fun _ => False) w W) t (ht : t.size ≤ 140737488355328) => first_calls W t ht (hn.frm hW) (TabAt.frm hv.tab hW (fun h => h)))
  have KN := Lib.hid (fun W (hW : Frm (fun _ => False) w W) (n : Nat) (h : n < 18446744073709551616) => name_calls W n h (TabAt.frm hv.tab hW (fun h => h)))
  have KQ := Lib.hid (fun W (n : Nat) (h : n < 18446744073709551616) => rname_calls W n h)
  have KX := Lib.hid (fun W (hW : Frm (fun _ => False) w W) => KF.out W hW (nmOf x) (by rw [nmOf_size]; decide))
  have KS := Lib.hid (fun W (hW : Frm (fun _ => False) w W) => KF.out W hW s hs)
  have KR := Lib.hid (fun W => rfirst_calls W s)
  clear he hv hn hs KF
  have h3 : x = 0 ∨ (1 ≤ x ∧ x ≤ 4611686018427387904) ∨ 4611686018427387904 < x := by omega
  cases hf : Sg.firstOf (bl s) with
  | none =>
    have e := firstV_none hf
    have KS2 := Lib.hid (fun W hW => KS.out W hW)
    have KR2 := Lib.hid (fun W => KR.out W)
    simp only [e] at KS2 KR2
    clear e hf KS KR
    rcases h3 with hc | hc | hc
    · have hd1 : decide ((x : Int) < 1) = true := decide_eq_true (by omega)
      have HXF := firstV_none (first_no4 hx (fun h => by omega))
      have KX2 := Lib.hid (fun W hW => KX.out W hW)
      simp only [HXF] at KX2
      clear HXF hc KX
      go_enter Tryz.func7, Tryz.ntmps7
      go_wp2_with (first
        | (go_at_call 32; (with_reducible refine KA.out.mono ?_); rintro e w1 ⟨rfl, hf1⟩; have H1 := Lib.hid hf1; clear hf1)
        | (go_at_call 48; (with_reducible refine (KS2.out _ H1.out).mono ?_); rintro e w2 ⟨rfl, hf2⟩; have H2 := Lib.hid (H1.out.trans hf2 (fun _ _ h => h)); clear hf2)
        | (go_at_call 49; (with_reducible refine (KR2.out _).mono ?_); rintro e w3 ⟨rfl, hu⟩; rw [hu]; clear hu)
        | (go_at_call 40; (with_reducible refine (KN.out _ H2.out x hx).mono ?_); rintro e w4 ⟨rfl, hf4⟩; have H4 := Lib.hid (H2.out.trans hf4 (fun _ _ h => h)); clear hf4)
        | (go_at_call 48; (with_reducible refine (KX2.out _ H4.out).mono ?_); rintro e w5 ⟨rfl, hf5⟩; have H5 := Lib.hid (H4.out.trans hf5 (fun _ _ h => h)); clear hf5)
        | (go_at_call 40; (with_reducible refine (KN.out _ H5.out x hx).mono ?_); rintro e w6 ⟨rfl, hf6⟩; have H6 := Lib.hid (H5.out.trans hf6 (fun _ _ h => h)); clear hf6)
        | (go_at_call 50; (with_reducible refine (KQ.out _ x hx).mono ?_); rintro e w7 ⟨rfl, hf7⟩; have H7 := Lib.hid (H6.out.trans hf7 (fun _ _ h => h)); clear hf7))
      go_ret
      exact ⟨rfl, H7.out⟩
    · have hd1 : decide ((x : Int) < 1) = false := decide_eq_false (by omega)
      have hd2 : decide ((4611686018427387904 : Int) < (x : Int)) = false := decide_eq_false (by omega)
      have HXF := firstV_some (first_yes hc)
      have KX2 := Lib.hid (fun W hW => KX.out W hW)
      simp only [HXF] at KX2
      clear HXF hc KX
      go_enter Tryz.func7, Tryz.ntmps7
      go_wp2_with (first
        | (go_at_call 32; (with_reducible refine KA.out.mono ?_); rintro e w1 ⟨rfl, hf1⟩; have H1 := Lib.hid hf1; clear hf1)
        | (go_at_call 48; (with_reducible refine (KS2.out _ H1.out).mono ?_); rintro e w2 ⟨rfl, hf2⟩; have H2 := Lib.hid (H1.out.trans hf2 (fun _ _ h => h)); clear hf2)
        | (go_at_call 49; (with_reducible refine (KR2.out _).mono ?_); rintro e w3 ⟨rfl, hu⟩; rw [hu]; clear hu)
        | (go_at_call 40; (with_reducible refine (KN.out _ H2.out x hx).mono ?_); rintro e w4 ⟨rfl, hf4⟩; have H4 := Lib.hid (H2.out.trans hf4 (fun _ _ h => h)); clear hf4)
        | (go_at_call 48; (with_reducible refine (KX2.out _ H4.out).mono ?_); rintro e w5 ⟨rfl, hf5⟩; have H5 := Lib.hid (H4.out.trans hf5 (fun _ _ h => h)); clear hf5)
        | (go_at_call 40; (with_reducible refine (KN.out _ H5.out x hx).mono ?_); rintro e w6 ⟨rfl, hf6⟩; have H6 := Lib.hid (H5.out.trans hf6 (fun _ _ h => h)); clear hf6)
        | (go_at_call 50; (with_reducible refine (KQ.out _ x hx).mono ?_); rintro e w7 ⟨rfl, hf7⟩; have H7 := Lib.hid (H6.out.trans hf7 (fun _ _ h => h)); clear hf7))
      go_ret
      exact ⟨rfl, H7.out⟩
    · have hd1 : decide ((x : Int) < 1) = false := decide_eq_false (by omega)
      have hd2 : decide ((4611686018427387904 : Int) < (x : Int)) = true := decide_eq_true (by omega)
      have HXF := firstV_none (first_no4 hx (fun h => by omega))
      have KX2 := Lib.hid (fun W hW => KX.out W hW)
      simp only [HXF] at KX2
      clear HXF hc KX
      go_enter Tryz.func7, Tryz.ntmps7
      go_wp2_with (first
        | (go_at_call 32; (with_reducible refine KA.out.mono ?_); rintro e w1 ⟨rfl, hf1⟩; have H1 := Lib.hid hf1; clear hf1)
        | (go_at_call 48; (with_reducible refine (KS2.out _ H1.out).mono ?_); rintro e w2 ⟨rfl, hf2⟩; have H2 := Lib.hid (H1.out.trans hf2 (fun _ _ h => h)); clear hf2)
        | (go_at_call 49; (with_reducible refine (KR2.out _).mono ?_); rintro e w3 ⟨rfl, hu⟩; rw [hu]; clear hu)
        | (go_at_call 40; (with_reducible refine (KN.out _ H2.out x hx).mono ?_); rintro e w4 ⟨rfl, hf4⟩; have H4 := Lib.hid (H2.out.trans hf4 (fun _ _ h => h)); clear hf4)
        | (go_at_call 48; (with_reducible refine (KX2.out _ H4.out).mono ?_); rintro e w5 ⟨rfl, hf5⟩; have H5 := Lib.hid (H4.out.trans hf5 (fun _ _ h => h)); clear hf5)
        | (go_at_call 40; (with_reducible refine (KN.out _ H5.out x hx).mono ?_); rintro e w6 ⟨rfl, hf6⟩; have H6 := Lib.hid (H5.out.trans hf6 (fun _ _ h => h)); clear hf6)
        | (go_at_call 50; (with_reducible refine (KQ.out _ x hx).mono ?_); rintro e w7 ⟨rfl, hf7⟩; have H7 := Lib.hid (H6.out.trans hf7 (fun _ _ h => h)); clear hf7))
      go_ret
      exact ⟨rfl, H7.out⟩
  | some y =>
    have e := firstV_some hf
    obtain ⟨hb, hy1, hy2⟩ := (Sg.firstOf_iff _ _).1 hf
    have hs : s = nmOf y := (nm_iff s y).2 hb
    have HY : Hid (y < 18446744073709551616) := Lib.hid (by omega)
    have KS2 := Lib.hid (fun W hW => KS.out W hW)
    have KR2 := Lib.hid (fun W => KR.out W)
    simp only [e] at KS2 KR2
    clear e hf KS KR hb hy1 hy2
    subst hs
    rcases h3 with hc | hc | hc
    · have hd1 : decide ((x : Int) < 1) = true := decide_eq_true (by omega)
      have HXF := firstV_none (first_no4 hx (fun h => by omega))
      have KX2 := Lib.hid (fun W hW => KX.out W hW)
      simp only [HXF] at KX2
      clear HXF hc KX
      go_enter Tryz.func7, Tryz.ntmps7
      go_wp2_with (first
        | (go_at_call 32; (with_reducible refine KA.out.mono ?_); rintro e w1 ⟨rfl, hf1⟩; have H1 := Lib.hid hf1; clear hf1)
        | (go_at_call 48; (with_reducible refine (KS2.out _ H1.out).mono ?_); rintro e w2 ⟨rfl, hf2⟩; have H2 := Lib.hid (H1.out.trans hf2 (fun _ _ h => h)); clear hf2)
        | (go_at_call 49; (with_reducible refine (KR2.out _).mono ?_); rintro e w3 ⟨rfl, hu⟩; rw [hu]; clear hu)
        | (go_at_call 40; (with_reducible refine (KN.out _ H2.out x hx).mono ?_); rintro e w4 ⟨rfl, hf4⟩; have H4 := Lib.hid (H2.out.trans hf4 (fun _ _ h => h)); clear hf4)
        | (go_at_call 48; (with_reducible refine (KX2.out _ H4.out).mono ?_); rintro e w5 ⟨rfl, hf5⟩; have H5 := Lib.hid (H4.out.trans hf5 (fun _ _ h => h)); clear hf5)
        | (go_at_call 40; (with_reducible refine (KN.out _ H5.out x hx).mono ?_); rintro e w6 ⟨rfl, hf6⟩; have H6 := Lib.hid (H5.out.trans hf6 (fun _ _ h => h)); clear hf6)
        | (go_at_call 50; (with_reducible refine (KQ.out _ x hx).mono ?_); rintro e w7 ⟨rfl, hf7⟩; have H7 := Lib.hid (H6.out.trans hf7 (fun _ _ h => h)); clear hf7)
        | (go_at_call 40; (with_reducible refine (KN.out _ H7.out y HY.out).mono ?_); rintro e w8 ⟨rfl, hf8⟩; have H8 := Lib.hid (H7.out.trans hf8 (fun _ _ h => h)); clear hf8))
      go_ret
      exact ⟨rfl, H8.out⟩
    · have hd1 : decide ((x : Int) < 1) = false := decide_eq_false (by omega)
      have hd2 : decide ((4611686018427387904 : Int) < (x : Int)) = false := decide_eq_false (by omega)
      have HXF := firstV_some (first_yes hc)
      have KX2 := Lib.hid (fun W hW => KX.out W hW)
      simp only [HXF] at KX2
      clear HXF hc KX
      go_enter Tryz.func7, Tryz.ntmps7
      go_wp2_with (first
        | (go_at_call 32; (with_reducible refine KA.out.mono ?_); rintro e w1 ⟨rfl, hf1⟩; have H1 := Lib.hid hf1; clear hf1)
        | (go_at_call 48; (with_reducible refine (KS2.out _ H1.out).mono ?_); rintro e w2 ⟨rfl, hf2⟩; have H2 := Lib.hid (H1.out.trans hf2 (fun _ _ h => h)); clear hf2)
        | (go_at_call 49; (with_reducible refine (KR2.out _).mono ?_); rintro e w3 ⟨rfl, hu⟩; rw [hu]; clear hu)
        | (go_at_call 40; (with_reducible refine (KN.out _ H2.out x hx).mono ?_); rintro e w4 ⟨rfl, hf4⟩; have H4 := Lib.hid (H2.out.trans hf4 (fun _ _ h => h)); clear hf4)
        | (go_at_call 48; (with_reducible refine (KX2.out _ H4.out).mono ?_); rintro e w5 ⟨rfl, hf5⟩; have H5 := Lib.hid (H4.out.trans hf5 (fun _ _ h => h)); clear hf5)
        | (go_at_call 40; (with_reducible refine (KN.out _ H5.out x hx).mono ?_); rintro e w6 ⟨rfl, hf6⟩; have H6 := Lib.hid (H5.out.trans hf6 (fun _ _ h => h)); clear hf6)
        | (go_at_call 50; (with_reducible refine (KQ.out _ x hx).mono ?_); rintro e w7 ⟨rfl, hf7⟩; have H7 := Lib.hid (H6.out.trans hf7 (fun _ _ h => h)); clear hf7)
        | (go_at_call 40; (with_reducible refine (KN.out _ H7.out y HY.out).mono ?_); rintro e w8 ⟨rfl, hf8⟩; have H8 := Lib.hid (H7.out.trans hf8 (fun _ _ h => h)); clear hf8))
      go_ret
      exact ⟨rfl, H8.out⟩
    · have hd1 : decide ((x : Int) < 1) = false := decide_eq_false (by omega)
      have hd2 : decide ((4611686018427387904 : Int) < (x : Int)) = true := decide_eq_true (by omega)
      have HXF := firstV_none (first_no4 hx (fun h => by omega))
      have KX2 := Lib.hid (fun W hW => KX.out W hW)
      simp only [HXF] at KX2
      clear HXF hc KX
      go_enter Tryz.func7, Tryz.ntmps7
      go_wp2_with (first
        | (go_at_call 32; (with_reducible refine KA.out.mono ?_); rintro e w1 ⟨rfl, hf1⟩; have H1 := Lib.hid hf1; clear hf1)
        | (go_at_call 48; (with_reducible refine (KS2.out _ H1.out).mono ?_); rintro e w2 ⟨rfl, hf2⟩; have H2 := Lib.hid (H1.out.trans hf2 (fun _ _ h => h)); clear hf2)
        | (go_at_call 49; (with_reducible refine (KR2.out _).mono ?_); rintro e w3 ⟨rfl, hu⟩; rw [hu]; clear hu)
        | (go_at_call 40; (with_reducible refine (KN.out _ H2.out x hx).mono ?_); rintro e w4 ⟨rfl, hf4⟩; have H4 := Lib.hid (H2.out.trans hf4 (fun _ _ h => h)); clear hf4)
        | (go_at_call 48; (with_reducible refine (KX2.out _ H4.out).mono ?_); rintro e w5 ⟨rfl, hf5⟩; have H5 := Lib.hid (H4.out.trans hf5 (fun _ _ h => h)); clear hf5)
        | (go_at_call 40; (with_reducible refine (KN.out _ H5.out x hx).mono ?_); rintro e w6 ⟨rfl, hf6⟩; have H6 := Lib.hid (H5.out.trans hf6 (fun _ _ h => h)); clear hf6)
        | (go_at_call 50; (with_reducible refine (KQ.out _ x hx).mono ?_); rintro e w7 ⟨rfl, hf7⟩; have H7 := Lib.hid (H6.out.trans hf7 (fun _ _ h => h)); clear hf7)
        | (go_at_call 40; (with_reducible refine (KN.out _ H7.out y HY.out).mono ?_); rintro e w8 ⟨rfl, hf8⟩; have H8 := Lib.hid (H7.out.trans hf8 (fun _ _ h => h)); clear hf8))
      go_ret
      exact ⟨rfl, H8.out⟩
end Go.Proofs.YtpckkdjdjkjapaaGreatDoor.Dw
