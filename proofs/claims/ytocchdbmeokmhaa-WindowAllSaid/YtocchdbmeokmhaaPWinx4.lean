-- made by a program of this session (wip/tools/pp.py) over the kit's print
import Derived.Test.YtocchdbmeokmhaaPWinx0
import Derived.Test.YtocchdbmeokmhaaPWinx1
namespace Go.Proofs.Ytocchdbmeokmhaa.PWin
open Go.RowKit Go.Proofs.YtocchdbmeokmhaaW.PrintWords Go.Proofs.YtocchdbmeokmhaaW.PrintLast Go.Proofs.YtocchdbmeokmhaaW.PrintMore
attribute [local go_sem] max2_int min2_int max_two min_two max_three min_three max_four min_four   -- for this text's walks alone
set_option linter.unusedVariables false
set_option linter.unusedSimpArgs false

/-! ### turnstilelaw05_WindowStarts: function 6 -/
def turnstilelaw05_WindowStarts.j0 : Nat → Int → Int → Bool → Option (Bool)
  | 0, _, _, _ => none
  | k + 1, x0, x2, x39 => if x39 = true then (some false) else ((window_Start.f x0 x2).bind fun t169 => (if t169 = 18446744073709551615 then ((window_Index.f x0 18446744073709551615).bind fun t170 => (some (decide (x2 ≥ t170)))) else ((window_Index.f x0 t169).bind fun t171 => (if t171 = x2 then (if t169 = 0 then (some true) else ((window_Index.f x0 (IntKind.u64.wrap (t169 - 1))).bind fun t172 => (some (t172 == (IntKind.u64.wrap (x2 - 1)))))) else (some false)))))
def turnstilelaw05_WindowStarts.f (k : Nat) (a0 : Int) (a1 : Int) (a2 : Int) : Option (Bool) := (turnstilelaw05_awake.f k).bind fun t165 => (if t165 = true then ((window_Index.f a0 a1).bind fun t166 => (if a0 = 0 then (if t166 = 0 then ((window_Start.f a0 a2).bind fun t167 => (some (t167 == 0))) else (some false)) else ((window_Start.f a0 t166).bind fun t168 => (if t168 > a1 then (turnstilelaw05_WindowStarts.j0 k a0 a2 true) else (turnstilelaw05_WindowStarts.j0 k a0 a2 (decide ((IntKind.u64.wrap (a1 - t168)) ≥ a0))))))) else (some false))
theorem turnstilelaw05_WindowStarts.mono_l : ∀ k, (∀ y0 y1 y2, LeO (turnstilelaw05_WindowStarts.j0 k y0 y1 y2) (turnstilelaw05_WindowStarts.j0 (k + 1) y0 y1 y2))
  | 0 => fun _ _ _ r h => by simp [turnstilelaw05_WindowStarts.j0] at h
  | k + 1 => by
    have ih0 := turnstilelaw05_WindowStarts.mono_l k
    · intro y0 y1 y2
      unfold turnstilelaw05_WindowStarts.j0
      repeat' first
      | (with_reducible exact ih0 _ _ _)
      | (with_reducible exact turnstilelaw05_awake.mono _)
      | (with_reducible exact LeO.refl _)
      | (with_reducible exact LeO.none _)
      | (with_reducible refine LeO.ite ?_ ?_)
      | (with_reducible refine LeO.bind ?_ (fun _ => ?_))
      | exact ih0 _ _ _
      | exact turnstilelaw05_awake.mono _
      | exact LeO.none _
      | refine LeO.ite ?_ ?_
      | refine LeO.bind ?_ (fun _ => ?_)
theorem turnstilelaw05_WindowStarts.mono : ∀ a0 a1 a2 k, LeO (turnstilelaw05_WindowStarts.f k a0 a1 a2) (turnstilelaw05_WindowStarts.f (k + 1) a0 a1 a2) := by
  intro a0 a1 a2 k
  have ih0 := turnstilelaw05_WindowStarts.mono_l k
  unfold turnstilelaw05_WindowStarts.f
  repeat' first
      | (with_reducible exact ih0 _ _ _)
      | (with_reducible exact turnstilelaw05_awake.mono _)
      | (with_reducible exact LeO.refl _)
      | (with_reducible exact LeO.none _)
      | (with_reducible refine LeO.ite ?_ ?_)
      | (with_reducible refine LeO.bind ?_ (fun _ => ?_))
      | exact ih0 _ _ _
      | exact turnstilelaw05_awake.mono _
      | exact LeO.none _
      | refine LeO.ite ?_ ?_
      | refine LeO.bind ?_ (fun _ => ?_)
set_option maxHeartbeats 8000000 in
set_option maxRecDepth 100000 in
theorem turnstilelaw05_WindowStarts.calls (k : Nat) (a0 : Int) (a1 : Int) (a2 : Int) (r : Bool) (w : World) (h : turnstilelaw05_WindowStarts.f k a0 a1 a2 = some r) :
    Calls Try.prog 6 #[.int .u64 a0, .int .u64 a1, .int .u64 a2] w fun e w' => e = .returned (.bool r) ∧ Drawn0 w w' := by
  have H : ((turnstilelaw05_awake.f k).bind fun t165 => (if t165 = true then ((window_Index.f a0 a1).bind fun t166 => (if a0 = 0 then (if t166 = 0 then ((window_Start.f a0 a2).bind fun t167 => (some (t167 == 0))) else (some false)) else ((window_Start.f a0 t166).bind fun t168 => (if t168 > a1 then (turnstilelaw05_WindowStarts.j0 k a0 a2 true) else (turnstilelaw05_WindowStarts.j0 k a0 a2 (decide ((IntKind.u64.wrap (a1 - t168)) ≥ a0))))))) else (some false))) = some r := h
  clear h
  replace H := Option.bind_eq_some_iff.mp H
  obtain ⟨t165, A40, H⟩ := H
  replace H : (if t165 = true then ((window_Index.f a0 a1).bind fun t166 => (if a0 = 0 then (if t166 = 0 then ((window_Start.f a0 a2).bind fun t167 => (some (t167 == 0))) else (some false)) else ((window_Start.f a0 t166).bind fun t168 => (if t168 > a1 then (turnstilelaw05_WindowStarts.j0 k a0 a2 true) else (turnstilelaw05_WindowStarts.j0 k a0 a2 (decide ((IntKind.u64.wrap (a1 - t168)) ≥ a0))))))) else (some false)) = some r := H
  have A4 := Aside0.mk A40
  clear A40
  by_cases c5 : t165 = true
  · subst c5
    have H1 : ((window_Index.f a0 a1).bind fun t166 => (if a0 = 0 then (if t166 = 0 then ((window_Start.f a0 a2).bind fun t167 => (some (t167 == 0))) else (some false)) else ((window_Start.f a0 t166).bind fun t168 => (if t168 > a1 then (turnstilelaw05_WindowStarts.j0 k a0 a2 true) else (turnstilelaw05_WindowStarts.j0 k a0 a2 (decide ((IntKind.u64.wrap (a1 - t168)) ≥ a0))))))) = some r := by rw [if_pos rfl] at H; exact H
    clear H
    have H := H1
    clear H1
    replace H := Option.bind_eq_some_iff.mp H
    obtain ⟨t166, A60, H⟩ := H
    replace H : (if a0 = 0 then (if t166 = 0 then ((window_Start.f a0 a2).bind fun t167 => (some (t167 == 0))) else (some false)) else ((window_Start.f a0 t166).bind fun t168 => (if t168 > a1 then (turnstilelaw05_WindowStarts.j0 k a0 a2 true) else (turnstilelaw05_WindowStarts.j0 k a0 a2 (decide ((IntKind.u64.wrap (a1 - t168)) ≥ a0)))))) = some r := H
    have A6 := Aside0.mk A60
    clear A60
    by_cases c7 : a0 = 0
    · rw [if_pos c7] at H
      have c7b0 : (a0 == 0) = true := beq_iff_eq.mpr c7
      have c7b1 : (a0 != 0) = false := bne_eq_false_iff_eq.mpr c7
      clear c7
      by_cases c8 : t166 = 0
      · rw [if_pos c8] at H
        have c8b0 : (t166 == 0) = true := beq_iff_eq.mpr c8
        have c8b1 : (t166 != 0) = false := bne_eq_false_iff_eq.mpr c8
        clear c8
        replace H := Option.bind_eq_some_iff.mp H
        obtain ⟨t167, A90, H⟩ := H
        replace H : (some (t167 == 0)) = some r := H
        have A9 := Aside0.mk A90
        clear A90
        obtain rfl := Option.some.inj H
        go_enter Try.func6, Try.ntmps6
        go_wp2_with (first | ((with_reducible refine gate_callee (f := 8) rfl ?_); refine goesL_ (some 11) rfl rfl Try.func8 (by kernel_rfl) rfl #[] rfl (by (try simp only [List.map_toArray, List.map_cons, List.map_nil]); first | done | rfl | (simp only [List.length_drop, List.length_take]; rfl)) ?_; (with_reducible refine (turnstilelaw05_awake.calls k  true _ A4.out).mono ?_); rintro e w' ⟨rfl, ⟨nd, rfl⟩⟩; refine ⟨_, rfl, ?_⟩) | ((with_reducible refine gate_callee (f := 14) rfl ?_); refine goesL_ (some 16) rfl rfl Try.func14 (by kernel_rfl) rfl #[.int .u64 a0, .int .u64 a1] rfl (by (try simp only [List.map_toArray, List.map_cons, List.map_nil]); first | done | rfl | (simp only [List.length_drop, List.length_take]; rfl)) ?_; (with_reducible refine (window_Index.calls a0 a1 t166 _ A6.out).mono ?_); rintro e w' ⟨rfl, ⟨nd, rfl⟩⟩; refine ⟨_, rfl, ?_⟩) | (go_at_call 15; (with_reducible refine (window_Start.calls a0 a2 t167 _ A9.out).mono ?_); rintro e w' ⟨rfl, ⟨nd, rfl⟩⟩))
        go_ret
        exact ⟨by first | rfl | (simp; done) | (simp [*]; done) | (simp [Int.tdiv_eq_ediv_of_nonneg]; done), by repeat (first | exact Drawn0.refl _ | apply Drawn0.step)⟩
      · rw [if_neg c8] at H
        have c8b0 : (t166 == 0) = false := beq_eq_false_iff_ne.mpr c8
        have c8b1 : (t166 != 0) = true := bne_iff_ne.mpr c8
        obtain rfl := Option.some.inj H
        go_enter Try.func6, Try.ntmps6
        go_wp2_with (first | ((with_reducible refine gate_callee (f := 8) rfl ?_); refine goesL_ (some 11) rfl rfl Try.func8 (by kernel_rfl) rfl #[] rfl (by (try simp only [List.map_toArray, List.map_cons, List.map_nil]); first | done | rfl | (simp only [List.length_drop, List.length_take]; rfl)) ?_; (with_reducible refine (turnstilelaw05_awake.calls k  true _ A4.out).mono ?_); rintro e w' ⟨rfl, ⟨nd, rfl⟩⟩; refine ⟨_, rfl, ?_⟩) | ((with_reducible refine gate_callee (f := 14) rfl ?_); refine goesL_ (some 16) rfl rfl Try.func14 (by kernel_rfl) rfl #[.int .u64 a0, .int .u64 a1] rfl (by (try simp only [List.map_toArray, List.map_cons, List.map_nil]); first | done | rfl | (simp only [List.length_drop, List.length_take]; rfl)) ?_; (with_reducible refine (window_Index.calls a0 a1 t166 _ A6.out).mono ?_); rintro e w' ⟨rfl, ⟨nd, rfl⟩⟩; refine ⟨_, rfl, ?_⟩))
        go_ret
        exact ⟨by first | rfl | (simp; done) | (simp [*]; done) | (simp [Int.tdiv_eq_ediv_of_nonneg]; done), by repeat (first | exact Drawn0.refl _ | apply Drawn0.step)⟩
    · rw [if_neg c7] at H
      have c7b0 : (a0 == 0) = false := beq_eq_false_iff_ne.mpr c7
      have c7b1 : (a0 != 0) = true := bne_iff_ne.mpr c7
      replace H := Option.bind_eq_some_iff.mp H
      obtain ⟨t168, A100, H⟩ := H
      replace H : (if t168 > a1 then (turnstilelaw05_WindowStarts.j0 k a0 a2 true) else (turnstilelaw05_WindowStarts.j0 k a0 a2 (decide ((IntKind.u64.wrap (a1 - t168)) ≥ a0)))) = some r := H
      have A10 := Aside0.mk A100
      clear A100
      have HC11 := Aside0.mk H
      clear H
      go_enter Try.func6, Try.ntmps6
      go_upto_region 8 with (first | ((with_reducible refine gate_callee (f := 8) rfl ?_); refine goesL_ (some 11) rfl rfl Try.func8 (by kernel_rfl) rfl #[] rfl (by (try simp only [List.map_toArray, List.map_cons, List.map_nil]); first | done | rfl | (simp only [List.length_drop, List.length_take]; rfl)) ?_; (with_reducible refine (turnstilelaw05_awake.calls k  true _ A4.out).mono ?_); rintro e w' ⟨rfl, ⟨nd, rfl⟩⟩; refine ⟨_, rfl, ?_⟩) | ((with_reducible refine gate_callee (f := 14) rfl ?_); refine goesL_ (some 16) rfl rfl Try.func14 (by kernel_rfl) rfl #[.int .u64 a0, .int .u64 a1] rfl (by (try simp only [List.map_toArray, List.map_cons, List.map_nil]); first | done | rfl | (simp only [List.length_drop, List.length_take]; rfl)) ?_; (with_reducible refine (window_Index.calls a0 a1 t166 _ A6.out).mono ?_); rintro e w' ⟨rfl, ⟨nd, rfl⟩⟩; refine ⟨_, rfl, ?_⟩) | ((with_reducible refine gate_callee (f := 15) rfl ?_); refine goesL_ (some 29) rfl rfl Try.func15 (by kernel_rfl) rfl #[.int .u64 a0, .int .u64 t166] rfl (by (try simp only [List.map_toArray, List.map_cons, List.map_nil]); first | done | rfl | (simp only [List.length_drop, List.length_take]; rfl)) ?_; (with_reducible refine (window_Start.calls a0 t166 t168 _ A10.out).mono ?_); rintro e w' ⟨rfl, ⟨nd, rfl⟩⟩; refine ⟨_, rfl, ?_⟩))
      (try simp only [Act.put, List.setIfInBounds_toArray, List.set_cons_zero, List.set_cons_succ])
      go_cut [39] (fun v39 wc => ∃ (kq : Nat) (x39_10 : Bool), v39 = .bool x39_10 ∧ Aside0 (turnstilelaw05_WindowStarts.j0 kq a0 a2 x39_10 = some r) ∧ Aside0 (kq ≤ k) ∧ Drawn0 w wc)
      case first =>
        have H := HC11.out
        clear HC11
        by_cases c12 : t168 > a1
        · rw [if_pos c12] at H
          have c12b0 : decide (a1 < t168) = true := decide_eq_true c12
          clear c12
          (first | rw [c12b0] | (simp only [i64_w, i32_w]; rw [c12b0]) | skip)
          have H' := Aside0.mk H
          clear H
          go_wp2
          go_meet
          case rel => exact ⟨_, (true), (by first | rfl | (simp; done) | (simp [*]; done)), H', ⟨by first | omega | exact Nat.le_refl _⟩, by repeat (first | exact Drawn0.refl _ | apply Drawn0.step)⟩
        · rw [if_neg c12] at H
          have c12b0 : decide (a1 < t168) = false := decide_eq_false c12
          clear c12
          (first | rw [c12b0] | (simp only [i64_w, i32_w]; rw [c12b0]) | skip)
          have H' := Aside0.mk H
          clear H
          go_wp2
          go_meet
          case rel => exact ⟨_, (decide ((IntKind.u64.wrap (a1 - t168)) ≥ a0)), (by first | rfl | (simp; done) | (simp [*]; done)), H', ⟨by first | omega | exact Nat.le_refl _⟩, by repeat (first | exact Drawn0.refl _ | apply Drawn0.step)⟩
      case rest =>
        clear HC11
        try clear c1
        try clear p2
        try clear c5
        try clear c6
        try clear c7
        try clear c7b0
        try clear c7b1
        try clear c8
        try clear c8b0
        try clear c8b1
        try clear c12
        try clear c12b0
        obtain ⟨kq, x39_10, rfl, HA, HJ10, ⟨mc10, rfl⟩⟩ := hcut
        cases kq with
        | zero => exact absurd HA.out (by simp [turnstilelaw05_WindowStarts.j0])
        | succ kj10 =>
          have H := HA.out
          clear HA
          simp only [turnstilelaw05_WindowStarts.j0] at H
          by_cases c13 : x39_10 = true
          · subst c13
            have H1 : (some false) = some r := by rw [if_pos rfl] at H; exact H
            clear H
            have H := H1
            clear H1
            obtain rfl := Option.some.inj H
            go_wp2
            go_ret
            exact ⟨by first | rfl | (simp; done) | (simp [*]; done) | (simp [Int.tdiv_eq_ediv_of_nonneg]; done), by repeat (first | exact Drawn0.refl _ | apply Drawn0.step)⟩
          · replace c13 := Bool.eq_false_iff.mpr c13
            subst c13
            have H1 : ((window_Start.f a0 a2).bind fun t169 => (if t169 = 18446744073709551615 then ((window_Index.f a0 18446744073709551615).bind fun t170 => (some (decide (a2 ≥ t170)))) else ((window_Index.f a0 t169).bind fun t171 => (if t171 = a2 then (if t169 = 0 then (some true) else ((window_Index.f a0 (IntKind.u64.wrap (t169 - 1))).bind fun t172 => (some (t172 == (IntKind.u64.wrap (a2 - 1)))))) else (some false))))) = some r := by rw [if_neg (show ¬ (false = true) by decide)] at H; exact H
            clear H
            have H := H1
            clear H1
            replace H := Option.bind_eq_some_iff.mp H
            obtain ⟨t169, A140, H⟩ := H
            replace H : (if t169 = 18446744073709551615 then ((window_Index.f a0 18446744073709551615).bind fun t170 => (some (decide (a2 ≥ t170)))) else ((window_Index.f a0 t169).bind fun t171 => (if t171 = a2 then (if t169 = 0 then (some true) else ((window_Index.f a0 (IntKind.u64.wrap (t169 - 1))).bind fun t172 => (some (t172 == (IntKind.u64.wrap (a2 - 1)))))) else (some false)))) = some r := H
            have A14 := Aside0.mk A140
            clear A140
            by_cases c15 : t169 = 18446744073709551615
            · rw [if_pos c15] at H
              have c15b0 : (t169 == 18446744073709551615) = true := beq_iff_eq.mpr c15
              have c15b1 : (t169 != 18446744073709551615) = false := bne_eq_false_iff_eq.mpr c15
              clear c15
              replace H := Option.bind_eq_some_iff.mp H
              obtain ⟨t170, A160, H⟩ := H
              replace H : (some (decide (a2 ≥ t170))) = some r := H
              have A16 := Aside0.mk A160
              clear A160
              obtain rfl := Option.some.inj H
              go_wp2_with (first | ((with_reducible refine gate_callee (f := 15) rfl ?_); refine goesL_ (some 42) rfl rfl Try.func15 (by kernel_rfl) rfl #[.int .u64 a0, .int .u64 a2] rfl (by (try simp only [List.map_toArray, List.map_cons, List.map_nil]); first | done | rfl | (simp only [List.length_drop, List.length_take]; rfl)) ?_; (with_reducible refine (window_Start.calls a0 a2 t169 _ A14.out).mono ?_); rintro e w' ⟨rfl, ⟨nd, rfl⟩⟩; refine ⟨_, rfl, ?_⟩) | ((with_reducible refine gate_callee (f := 14) rfl ?_); refine goesL_ (some 47) rfl rfl Try.func14 (by kernel_rfl) rfl #[.int .u64 a0, .int .u64 18446744073709551615] rfl (by (try simp only [List.map_toArray, List.map_cons, List.map_nil]); first | done | rfl | (simp only [List.length_drop, List.length_take]; rfl)) ?_; (with_reducible refine (window_Index.calls a0 18446744073709551615 t170 _ A16.out).mono ?_); rintro e w' ⟨rfl, ⟨nd, rfl⟩⟩; refine ⟨_, rfl, ?_⟩))
              go_ret
              exact ⟨by first | rfl | (simp; done) | (simp [*]; done) | (simp [Int.tdiv_eq_ediv_of_nonneg]; done), by repeat (first | exact Drawn0.refl _ | apply Drawn0.step)⟩
            · rw [if_neg c15] at H
              have c15b0 : (t169 == 18446744073709551615) = false := beq_eq_false_iff_ne.mpr c15
              have c15b1 : (t169 != 18446744073709551615) = true := bne_iff_ne.mpr c15
              replace H := Option.bind_eq_some_iff.mp H
              obtain ⟨t171, A170, H⟩ := H
              replace H : (if t171 = a2 then (if t169 = 0 then (some true) else ((window_Index.f a0 (IntKind.u64.wrap (t169 - 1))).bind fun t172 => (some (t172 == (IntKind.u64.wrap (a2 - 1)))))) else (some false)) = some r := H
              have A17 := Aside0.mk A170
              clear A170
              by_cases c18 : t171 = a2
              · rw [if_pos c18] at H
                have c18b0 : (t171 == a2) = true := beq_iff_eq.mpr c18
                have c18b1 : (t171 != a2) = false := bne_eq_false_iff_eq.mpr c18
                clear c18
                by_cases c19 : t169 = 0
                · rw [if_pos c19] at H
                  have c19b0 : (t169 == 0) = true := beq_iff_eq.mpr c19
                  have c19b1 : (t169 != 0) = false := bne_eq_false_iff_eq.mpr c19
                  clear c19
                  obtain rfl := Option.some.inj H
                  go_wp2_with (first | ((with_reducible refine gate_callee (f := 15) rfl ?_); refine goesL_ (some 42) rfl rfl Try.func15 (by kernel_rfl) rfl #[.int .u64 a0, .int .u64 a2] rfl (by (try simp only [List.map_toArray, List.map_cons, List.map_nil]); first | done | rfl | (simp only [List.length_drop, List.length_take]; rfl)) ?_; (with_reducible refine (window_Start.calls a0 a2 t169 _ A14.out).mono ?_); rintro e w' ⟨rfl, ⟨nd, rfl⟩⟩; refine ⟨_, rfl, ?_⟩) | ((with_reducible refine gate_callee (f := 14) rfl ?_); refine goesL_ (some 51) rfl rfl Try.func14 (by kernel_rfl) rfl #[.int .u64 a0, .int .u64 t169] rfl (by (try simp only [List.map_toArray, List.map_cons, List.map_nil]); first | done | rfl | (simp only [List.length_drop, List.length_take]; rfl)) ?_; (with_reducible refine (window_Index.calls a0 t169 t171 _ A17.out).mono ?_); rintro e w' ⟨rfl, ⟨nd, rfl⟩⟩; refine ⟨_, rfl, ?_⟩))
                  go_ret
                  exact ⟨by first | rfl | (simp; done) | (simp [*]; done) | (simp [Int.tdiv_eq_ediv_of_nonneg]; done), by repeat (first | exact Drawn0.refl _ | apply Drawn0.step)⟩
                · rw [if_neg c19] at H
                  have c19b0 : (t169 == 0) = false := beq_eq_false_iff_ne.mpr c19
                  have c19b1 : (t169 != 0) = true := bne_iff_ne.mpr c19
                  replace H := Option.bind_eq_some_iff.mp H
                  obtain ⟨t172, A200, H⟩ := H
                  replace H : (some (t172 == (IntKind.u64.wrap (a2 - 1)))) = some r := H
                  have A20 := Aside0.mk A200
                  clear A200
                  obtain rfl := Option.some.inj H
                  go_wp2_with (first | ((with_reducible refine gate_callee (f := 15) rfl ?_); refine goesL_ (some 42) rfl rfl Try.func15 (by kernel_rfl) rfl #[.int .u64 a0, .int .u64 a2] rfl (by (try simp only [List.map_toArray, List.map_cons, List.map_nil]); first | done | rfl | (simp only [List.length_drop, List.length_take]; rfl)) ?_; (with_reducible refine (window_Start.calls a0 a2 t169 _ A14.out).mono ?_); rintro e w' ⟨rfl, ⟨nd, rfl⟩⟩; refine ⟨_, rfl, ?_⟩) | ((with_reducible refine gate_callee (f := 14) rfl ?_); refine goesL_ (some 51) rfl rfl Try.func14 (by kernel_rfl) rfl #[.int .u64 a0, .int .u64 t169] rfl (by (try simp only [List.map_toArray, List.map_cons, List.map_nil]); first | done | rfl | (simp only [List.length_drop, List.length_take]; rfl)) ?_; (with_reducible refine (window_Index.calls a0 t169 t171 _ A17.out).mono ?_); rintro e w' ⟨rfl, ⟨nd, rfl⟩⟩; refine ⟨_, rfl, ?_⟩) | (go_at_call 14; (with_reducible refine (window_Index.calls a0 (IntKind.u64.wrap (t169 - 1)) t172 _ A20.out).mono ?_); rintro e w' ⟨rfl, ⟨nd, rfl⟩⟩))
                  go_ret
                  exact ⟨by first | rfl | (simp; done) | (simp [*]; done) | (simp [Int.tdiv_eq_ediv_of_nonneg]; done), by repeat (first | exact Drawn0.refl _ | apply Drawn0.step)⟩
              · rw [if_neg c18] at H
                have c18b0 : (t171 == a2) = false := beq_eq_false_iff_ne.mpr c18
                have c18b1 : (t171 != a2) = true := bne_iff_ne.mpr c18
                obtain rfl := Option.some.inj H
                go_wp2_with (first | ((with_reducible refine gate_callee (f := 15) rfl ?_); refine goesL_ (some 42) rfl rfl Try.func15 (by kernel_rfl) rfl #[.int .u64 a0, .int .u64 a2] rfl (by (try simp only [List.map_toArray, List.map_cons, List.map_nil]); first | done | rfl | (simp only [List.length_drop, List.length_take]; rfl)) ?_; (with_reducible refine (window_Start.calls a0 a2 t169 _ A14.out).mono ?_); rintro e w' ⟨rfl, ⟨nd, rfl⟩⟩; refine ⟨_, rfl, ?_⟩) | ((with_reducible refine gate_callee (f := 14) rfl ?_); refine goesL_ (some 51) rfl rfl Try.func14 (by kernel_rfl) rfl #[.int .u64 a0, .int .u64 t169] rfl (by (try simp only [List.map_toArray, List.map_cons, List.map_nil]); first | done | rfl | (simp only [List.length_drop, List.length_take]; rfl)) ?_; (with_reducible refine (window_Index.calls a0 t169 t171 _ A17.out).mono ?_); rintro e w' ⟨rfl, ⟨nd, rfl⟩⟩; refine ⟨_, rfl, ?_⟩))
                go_ret
                exact ⟨by first | rfl | (simp; done) | (simp [*]; done) | (simp [Int.tdiv_eq_ediv_of_nonneg]; done), by repeat (first | exact Drawn0.refl _ | apply Drawn0.step)⟩
  · replace c5 := Bool.eq_false_iff.mpr c5
    subst c5
    have H1 : (some false) = some r := by rw [if_neg (show ¬ (false = true) by decide)] at H; exact H
    clear H
    have H := H1
    clear H1
    obtain rfl := Option.some.inj H
    go_enter Try.func6, Try.ntmps6
    go_wp2_with (first | ((with_reducible refine gate_callee (f := 8) rfl ?_); refine goesL_ (some 11) rfl rfl Try.func8 (by kernel_rfl) rfl #[] rfl (by (try simp only [List.map_toArray, List.map_cons, List.map_nil]); first | done | rfl | (simp only [List.length_drop, List.length_take]; rfl)) ?_; (with_reducible refine (turnstilelaw05_awake.calls k  false _ A4.out).mono ?_); rintro e w' ⟨rfl, ⟨nd, rfl⟩⟩; refine ⟨_, rfl, ?_⟩))
    go_ret
    exact ⟨by first | rfl | (simp; done) | (simp [*]; done) | (simp [Int.tdiv_eq_ediv_of_nonneg]; done), by repeat (first | exact Drawn0.refl _ | apply Drawn0.step)⟩

/-- THE ONE PURE STATEMENT of turnstilelaw05_WindowStarts: yours. -/
def turnstilelaw05_WindowStarts.Pure : Prop := ∀ (a0 : Int) (a1 : Int) (a2 : Int), (Lit.int .u64 a0).wf = true → (Lit.int .u64 a1).wf = true → (Lit.int .u64 a2).wf = true → ∃ k, turnstilelaw05_WindowStarts.f k a0 a1 a2 = some true
theorem turnstilelaw05_WindowStarts.walk (P : turnstilelaw05_WindowStarts.Pure) (a0 : Int) (a1 : Int) (a2 : Int) (w : World) (w0 : (Lit.int .u64 a0).wf = true) (w1 : (Lit.int .u64 a1).wf = true) (w2 : (Lit.int .u64 a2).wf = true) :
    Calls Try.prog 6 #[.int .u64 a0, .int .u64 a1, .int .u64 a2] w fun e w' => e = .returned (.bool true) ∧ Below w.heap.size w w' := by
  obtain ⟨k, h⟩ := P a0 a1 a2 w0 w1 w2
  refine (turnstilelaw05_WindowStarts.calls k a0 a1 a2 true w h).mono ?_
  rintro e w' ⟨rfl, hd⟩
  exact ⟨rfl, hd.below⟩

/-! ### turnstilelaw05_WindowSums: function 7 -/
mutual
def turnstilelaw05_WindowSums.l0 : Nat → Int → Int → List (S38) → Int → Int → Int → Int → Int → Option (Bool)
  | 0, _, _, _, _, _, _, _, _ => none
  | k + 1, x0, x1, x2, x8, x9, x10, x11, x12 => if x12 < (x2.length : Int) then (if 0 ≤ x12 then ((window_Admit.f k x0 x1 x8 x9 ((rd_T38 x2 x12).f0) ((rd_T38 x2 x12).f1)).bind fun bt176 => (if bt176.2.2 = true then (if x1 = 0 then (turnstilelaw05_WindowSums.j1 k x0 x1 x2 x10 x11 x12 bt176.1 bt176.2.1 true ((rd_T38 x2 x12).f0) ((rd_T38 x2 x12).f1)) else (if ((rd_T38 x2 x12).f1) = 0 then (turnstilelaw05_WindowSums.j1 k x0 x1 x2 x10 x11 x12 bt176.1 bt176.2.1 true ((rd_T38 x2 x12).f0) ((rd_T38 x2 x12).f1)) else (if (IntKind.u64.wrap (Int.tdiv ((rd_T38 x2 x12).f0) x1)) = bt176.1 then (turnstilelaw05_WindowSums.j1 k x0 x1 x2 x10 x11 x12 bt176.1 bt176.2.1 (decide (bt176.1 < x11)) ((rd_T38 x2 x12).f0) ((rd_T38 x2 x12).f1)) else (turnstilelaw05_WindowSums.j1 k x0 x1 x2 x10 x11 x12 bt176.1 bt176.2.1 true ((rd_T38 x2 x12).f0) ((rd_T38 x2 x12).f1))))) else (if bt176.1 = x8 then (if bt176.2.1 = x9 then (turnstilelaw05_WindowSums.l0 k x0 x1 x2 x8 x9 x10 x11 (wrap64 (x12 + 1))) else (some false)) else (some false)))) else (none)) else (some true)
def turnstilelaw05_WindowSums.j1 : Nat → Int → Int → List (S38) → Int → Int → Int → Int → Int → Bool → Int → Int → Option (Bool)
  | 0, _, _, _, _, _, _, _, _, _, _, _ => none
  | k + 1, x0, x1, x2, x10, x11, x12, x14, x15, x72, x176000, x176001 => if x72 = true then (some false) else (if x14 > x11 then (turnstilelaw05_WindowSums.j2 k x0 x1 x2 0 x14 x12 x14 x15 x176000 x176001) else (turnstilelaw05_WindowSums.j2 k x0 x1 x2 x10 x11 x12 x14 x15 x176000 x176001))
def turnstilelaw05_WindowSums.j2 : Nat → Int → Int → List (S38) → Int → Int → Int → Int → Int → Int → Int → Option (Bool)
  | 0, _, _, _, _, _, _, _, _, _, _ => none
  | k + 1, x0, x1, x2, x10, x11, x12, x14, x15, x176000, x176001 => if x176001 > x0 then (turnstilelaw05_WindowSums.j3 k x0 x1 x2 x10 x11 x12 x14 x15 true x176000 x176001) else (turnstilelaw05_WindowSums.j3 k x0 x1 x2 x10 x11 x12 x14 x15 (decide (x10 > (IntKind.u64.wrap (x0 - x176001)))) x176000 x176001)
def turnstilelaw05_WindowSums.j3 : Nat → Int → Int → List (S38) → Int → Int → Int → Int → Int → Bool → Int → Int → Option (Bool)
  | 0, _, _, _, _, _, _, _, _, _, _, _ => none
  | k + 1, x0, x1, x2, x10, x11, x12, x14, x15, x88, x176000, x176001 => if x88 = true then (some false) else (if x15 = (IntKind.u64.wrap (x10 + x176001)) then (turnstilelaw05_WindowSums.l0 k x0 x1 x2 x14 x15 (IntKind.u64.wrap (x10 + x176001)) x11 (wrap64 (x12 + 1))) else (some false))
end
def turnstilelaw05_WindowSums.f (k : Nat) (a0 : Int) (a1 : Int) (l2 : List (S38)) : Option (Bool) := (turnstilelaw05_awake.f k).bind fun t173 => (if t173 = true then (turnstilelaw05_WindowSums.l0 k a0 a1 l2 0 0 0 0 0) else (some false))
theorem turnstilelaw05_WindowSums.mono_l : ∀ k, (∀ y0 y1 y2 y3 y4 y5 y6 y7, LeO (turnstilelaw05_WindowSums.l0 k y0 y1 y2 y3 y4 y5 y6 y7) (turnstilelaw05_WindowSums.l0 (k + 1) y0 y1 y2 y3 y4 y5 y6 y7)) ∧ (∀ y0 y1 y2 y3 y4 y5 y6 y7 y8 y9 y10, LeO (turnstilelaw05_WindowSums.j1 k y0 y1 y2 y3 y4 y5 y6 y7 y8 y9 y10) (turnstilelaw05_WindowSums.j1 (k + 1) y0 y1 y2 y3 y4 y5 y6 y7 y8 y9 y10)) ∧ (∀ y0 y1 y2 y3 y4 y5 y6 y7 y8 y9, LeO (turnstilelaw05_WindowSums.j2 k y0 y1 y2 y3 y4 y5 y6 y7 y8 y9) (turnstilelaw05_WindowSums.j2 (k + 1) y0 y1 y2 y3 y4 y5 y6 y7 y8 y9)) ∧ (∀ y0 y1 y2 y3 y4 y5 y6 y7 y8 y9 y10, LeO (turnstilelaw05_WindowSums.j3 k y0 y1 y2 y3 y4 y5 y6 y7 y8 y9 y10) (turnstilelaw05_WindowSums.j3 (k + 1) y0 y1 y2 y3 y4 y5 y6 y7 y8 y9 y10))
  | 0 => ⟨fun _ _ _ _ _ _ _ _ r h => by simp [turnstilelaw05_WindowSums.l0] at h, fun _ _ _ _ _ _ _ _ _ _ _ r h => by simp [turnstilelaw05_WindowSums.j1] at h, fun _ _ _ _ _ _ _ _ _ _ r h => by simp [turnstilelaw05_WindowSums.j2] at h, fun _ _ _ _ _ _ _ _ _ _ _ r h => by simp [turnstilelaw05_WindowSums.j3] at h⟩
  | k + 1 => by
    obtain ⟨ih0, ih1, ih2, ih3⟩ := turnstilelaw05_WindowSums.mono_l k
    refine ⟨?_, ?_, ?_, ?_⟩
    · intro y0 y1 y2 y3 y4 y5 y6 y7
      unfold turnstilelaw05_WindowSums.l0
      repeat' first
      | (with_reducible exact ih0 _ _ _ _ _ _ _ _)
      | (with_reducible exact ih1 _ _ _ _ _ _ _ _ _ _ _)
      | (with_reducible exact ih2 _ _ _ _ _ _ _ _ _ _)
      | (with_reducible exact ih3 _ _ _ _ _ _ _ _ _ _ _)
      | (with_reducible exact turnstilelaw05_awake.mono _)
      | (with_reducible exact window_Admit.mono _ _ _ _ _ _ _)
      | (with_reducible exact LeO.refl _)
      | (with_reducible exact LeO.none _)
      | (with_reducible refine LeO.ite ?_ ?_)
      | (with_reducible refine LeO.bind ?_ (fun _ => ?_))
      | exact ih0 _ _ _ _ _ _ _ _
      | exact ih1 _ _ _ _ _ _ _ _ _ _ _
      | exact ih2 _ _ _ _ _ _ _ _ _ _
      | exact ih3 _ _ _ _ _ _ _ _ _ _ _
      | exact turnstilelaw05_awake.mono _
      | exact window_Admit.mono _ _ _ _ _ _ _
      | exact LeO.none _
      | refine LeO.ite ?_ ?_
      | refine LeO.bind ?_ (fun _ => ?_)
    · intro y0 y1 y2 y3 y4 y5 y6 y7 y8 y9 y10
      unfold turnstilelaw05_WindowSums.j1
      repeat' first
      | (with_reducible exact ih0 _ _ _ _ _ _ _ _)
      | (with_reducible exact ih1 _ _ _ _ _ _ _ _ _ _ _)
      | (with_reducible exact ih2 _ _ _ _ _ _ _ _ _ _)
      | (with_reducible exact ih3 _ _ _ _ _ _ _ _ _ _ _)
      | (with_reducible exact turnstilelaw05_awake.mono _)
      | (with_reducible exact window_Admit.mono _ _ _ _ _ _ _)
      | (with_reducible exact LeO.refl _)
      | (with_reducible exact LeO.none _)
      | (with_reducible refine LeO.ite ?_ ?_)
      | (with_reducible refine LeO.bind ?_ (fun _ => ?_))
      | exact ih0 _ _ _ _ _ _ _ _
      | exact ih1 _ _ _ _ _ _ _ _ _ _ _
      | exact ih2 _ _ _ _ _ _ _ _ _ _
      | exact ih3 _ _ _ _ _ _ _ _ _ _ _
      | exact turnstilelaw05_awake.mono _
      | exact window_Admit.mono _ _ _ _ _ _ _
      | exact LeO.none _
      | refine LeO.ite ?_ ?_
      | refine LeO.bind ?_ (fun _ => ?_)
    · intro y0 y1 y2 y3 y4 y5 y6 y7 y8 y9
      unfold turnstilelaw05_WindowSums.j2
      repeat' first
      | (with_reducible exact ih0 _ _ _ _ _ _ _ _)
      | (with_reducible exact ih1 _ _ _ _ _ _ _ _ _ _ _)
      | (with_reducible exact ih2 _ _ _ _ _ _ _ _ _ _)
      | (with_reducible exact ih3 _ _ _ _ _ _ _ _ _ _ _)
      | (with_reducible exact turnstilelaw05_awake.mono _)
      | (with_reducible exact window_Admit.mono _ _ _ _ _ _ _)
      | (with_reducible exact LeO.refl _)
      | (with_reducible exact LeO.none _)
      | (with_reducible refine LeO.ite ?_ ?_)
      | (with_reducible refine LeO.bind ?_ (fun _ => ?_))
      | exact ih0 _ _ _ _ _ _ _ _
      | exact ih1 _ _ _ _ _ _ _ _ _ _ _
      | exact ih2 _ _ _ _ _ _ _ _ _ _
      | exact ih3 _ _ _ _ _ _ _ _ _ _ _
      | exact turnstilelaw05_awake.mono _
      | exact window_Admit.mono _ _ _ _ _ _ _
      | exact LeO.none _
      | refine LeO.ite ?_ ?_
      | refine LeO.bind ?_ (fun _ => ?_)
    · intro y0 y1 y2 y3 y4 y5 y6 y7 y8 y9 y10
      unfold turnstilelaw05_WindowSums.j3
      repeat' first
      | (with_reducible exact ih0 _ _ _ _ _ _ _ _)
      | (with_reducible exact ih1 _ _ _ _ _ _ _ _ _ _ _)
      | (with_reducible exact ih2 _ _ _ _ _ _ _ _ _ _)
      | (with_reducible exact ih3 _ _ _ _ _ _ _ _ _ _ _)
      | (with_reducible exact turnstilelaw05_awake.mono _)
      | (with_reducible exact window_Admit.mono _ _ _ _ _ _ _)
      | (with_reducible exact LeO.refl _)
      | (with_reducible exact LeO.none _)
      | (with_reducible refine LeO.ite ?_ ?_)
      | (with_reducible refine LeO.bind ?_ (fun _ => ?_))
      | exact ih0 _ _ _ _ _ _ _ _
      | exact ih1 _ _ _ _ _ _ _ _ _ _ _
      | exact ih2 _ _ _ _ _ _ _ _ _ _
      | exact ih3 _ _ _ _ _ _ _ _ _ _ _
      | exact turnstilelaw05_awake.mono _
      | exact window_Admit.mono _ _ _ _ _ _ _
      | exact LeO.none _
      | refine LeO.ite ?_ ?_
      | refine LeO.bind ?_ (fun _ => ?_)
theorem turnstilelaw05_WindowSums.mono : ∀ a0 a1 a2 k, LeO (turnstilelaw05_WindowSums.f k a0 a1 a2) (turnstilelaw05_WindowSums.f (k + 1) a0 a1 a2) := by
  intro a0 a1 a2 k
  obtain ⟨ih0, ih1, ih2, ih3⟩ := turnstilelaw05_WindowSums.mono_l k
  unfold turnstilelaw05_WindowSums.f
  repeat' first
      | (with_reducible exact ih0 _ _ _ _ _ _ _ _)
      | (with_reducible exact ih1 _ _ _ _ _ _ _ _ _ _ _)
      | (with_reducible exact ih2 _ _ _ _ _ _ _ _ _ _)
      | (with_reducible exact ih3 _ _ _ _ _ _ _ _ _ _ _)
      | (with_reducible exact turnstilelaw05_awake.mono _)
      | (with_reducible exact window_Admit.mono _ _ _ _ _ _ _)
      | (with_reducible exact LeO.refl _)
      | (with_reducible exact LeO.none _)
      | (with_reducible refine LeO.ite ?_ ?_)
      | (with_reducible refine LeO.bind ?_ (fun _ => ?_))
      | exact ih0 _ _ _ _ _ _ _ _
      | exact ih1 _ _ _ _ _ _ _ _ _ _ _
      | exact ih2 _ _ _ _ _ _ _ _ _ _
      | exact ih3 _ _ _ _ _ _ _ _ _ _ _
      | exact turnstilelaw05_awake.mono _
      | exact window_Admit.mono _ _ _ _ _ _ _
      | exact LeO.none _
      | refine LeO.ite ?_ ?_
      | refine LeO.bind ?_ (fun _ => ?_)
set_option maxHeartbeats 8000000 in
set_option maxRecDepth 100000 in
theorem turnstilelaw05_WindowSums.calls (k : Nat) (a0 : Int) (a1 : Int) (A2 : Option Addr) (c2 : Nat) (l2 : List (S38)) (r : Bool) (w : World) (hr2 : Kd.C k38 w A2 l2.length l2) (hc2 : l2.length ≤ c2) (h : turnstilelaw05_WindowSums.f k a0 a1 l2 = some r) :
    Calls Try.prog 7 #[.int .u64 a0, .int .u64 a1, .slice A2 l2.length c2] w fun e w' => e = .returned (.bool r) ∧ Below w.heap.size w w' := by
  have hu38 := Try.underlying38
  have HR2 := Aside0.mk hr2
  have HC2 := Aside0.mk hc2
  clear hr2 hc2
  have HB := Aside0.mk (Below.refl w.heap.size w)
  have H : ((turnstilelaw05_awake.f k).bind fun t173 => (if t173 = true then (turnstilelaw05_WindowSums.l0 k a0 a1 l2 0 0 0 0 0) else (some false))) = some r := h
  clear h
  replace H := Option.bind_eq_some_iff.mp H
  obtain ⟨t173, A40, H⟩ := H
  replace H : (if t173 = true then (turnstilelaw05_WindowSums.l0 k a0 a1 l2 0 0 0 0 0) else (some false)) = some r := H
  have A4 := Aside0.mk A40
  clear A40
  by_cases c5 : t173 = true
  · subst c5
    have H1 : (turnstilelaw05_WindowSums.l0 k a0 a1 l2 0 0 0 0 0) = some r := by rw [if_pos rfl] at H; exact H
    clear H
    have H := H1
    clear H1
    have H' := Aside0.mk H
    clear H
    go_enter Try.func7, Try.ntmps7
    go_wp2_with (first | ((with_reducible refine gate_callee (f := 8) rfl ?_); refine goesL_ (some 17) rfl rfl Try.func8 (by kernel_rfl) rfl #[] rfl (by (try simp only [List.map_toArray, List.map_cons, List.map_nil]); first | done | rfl | (simp only [List.length_drop, List.length_take]; rfl)) ?_; (with_reducible refine (turnstilelaw05_awake.calls k  true _ A4.out).mono ?_); rintro e w' ⟨rfl, ⟨nd, rfl⟩⟩; refine ⟨_, rfl, ?_⟩))
    go_loopg [8, 9, 10, 11, 12] k (fun kq v8 v9 v10 v11 v12 w' => ∃ (x8_1 : Int) (x9_1 : Int) (x10_1 : Int) (x11_1 : Int) (x12_1 : Int), v8 = .int .u64 x8_1 ∧ v9 = .int .u64 x9_1 ∧ v10 = .int .u64 x10_1 ∧ v11 = .int .u64 x11_1 ∧ v12 = .int .i64 x12_1 ∧ Aside0 (turnstilelaw05_WindowSums.l0 kq a0 a1 l2 x8_1 x9_1 x10_1 x11_1 x12_1 = some r) ∧ Aside0 (kq ≤ k) ∧ Aside0 (Below w.heap.size w w'))
    case atStart => exact ⟨(0), (0), (0), (0), (0), (by first | rfl | (simp; done) | (simp [*]; done)), (by first | rfl | (simp; done) | (simp [*]; done)), (by first | rfl | (simp; done) | (simp [*]; done)), (by first | rfl | (simp; done) | (simp [*]; done)), (by first | rfl | (simp; done) | (simp [*]; done)), H', ⟨Nat.le_refl _⟩, ⟨by repeat (first | (with_reducible first | exact HB.out | apply below_alloc | apply pw_below_drewN | apply below_drew1) | exact HB.out)⟩⟩
    case round =>
      clear H'
      try clear c2
      try clear p2
      try clear c5
      obtain ⟨x8_1, x9_1, x10_1, x11_1, x12_1, rfl, rfl, rfl, rfl, rfl, HA, HK1, HB⟩ := hrel
      cases gk with
      | zero => exact absurd HA.out (by simp [turnstilelaw05_WindowSums.l0])
      | succ k1 =>
        have H := HA.out
        clear HA
        simp only [turnstilelaw05_WindowSums.l0] at H
        by_cases c6 : x12_1 < (l2.length : Int)
        · rw [if_pos c6] at H
          have c6b0 : decide (x12_1 < (l2.length : Int)) = true := decide_eq_true c6
          clear c6
          by_cases c7 : 0 ≤ x12_1
          · rw [if_pos c7] at H
            have c7b0 : decide (0 ≤ x12_1) = true := decide_eq_true c7
            clear c7
            replace H := Option.bind_eq_some_iff.mp H
            obtain ⟨⟨t176, t177, t178⟩, A80, H⟩ := H
            replace H : (if t178 = true then (if a1 = 0 then (turnstilelaw05_WindowSums.j1 k1 a0 a1 l2 x10_1 x11_1 x12_1 t176 t177 true ((rd_T38 l2 x12_1).f0) ((rd_T38 l2 x12_1).f1)) else (if ((rd_T38 l2 x12_1).f1) = 0 then (turnstilelaw05_WindowSums.j1 k1 a0 a1 l2 x10_1 x11_1 x12_1 t176 t177 true ((rd_T38 l2 x12_1).f0) ((rd_T38 l2 x12_1).f1)) else (if (IntKind.u64.wrap (Int.tdiv ((rd_T38 l2 x12_1).f0) a1)) = t176 then (turnstilelaw05_WindowSums.j1 k1 a0 a1 l2 x10_1 x11_1 x12_1 t176 t177 (decide (t176 < x11_1)) ((rd_T38 l2 x12_1).f0) ((rd_T38 l2 x12_1).f1)) else (turnstilelaw05_WindowSums.j1 k1 a0 a1 l2 x10_1 x11_1 x12_1 t176 t177 true ((rd_T38 l2 x12_1).f0) ((rd_T38 l2 x12_1).f1))))) else (if t176 = x8_1 then (if t177 = x9_1 then (turnstilelaw05_WindowSums.l0 k1 a0 a1 l2 x8_1 x9_1 x10_1 x11_1 (wrap64 (x12_1 + 1))) else (some false)) else (some false))) = some r := H
            have A8 := Aside0.mk A80
            clear A80
            by_cases c9 : t178 = true
            · subst c9
              have H1 : (if a1 = 0 then (turnstilelaw05_WindowSums.j1 k1 a0 a1 l2 x10_1 x11_1 x12_1 t176 t177 true ((rd_T38 l2 x12_1).f0) ((rd_T38 l2 x12_1).f1)) else (if ((rd_T38 l2 x12_1).f1) = 0 then (turnstilelaw05_WindowSums.j1 k1 a0 a1 l2 x10_1 x11_1 x12_1 t176 t177 true ((rd_T38 l2 x12_1).f0) ((rd_T38 l2 x12_1).f1)) else (if (IntKind.u64.wrap (Int.tdiv ((rd_T38 l2 x12_1).f0) a1)) = t176 then (turnstilelaw05_WindowSums.j1 k1 a0 a1 l2 x10_1 x11_1 x12_1 t176 t177 (decide (t176 < x11_1)) ((rd_T38 l2 x12_1).f0) ((rd_T38 l2 x12_1).f1)) else (turnstilelaw05_WindowSums.j1 k1 a0 a1 l2 x10_1 x11_1 x12_1 t176 t177 true ((rd_T38 l2 x12_1).f0) ((rd_T38 l2 x12_1).f1))))) = some r := by rw [if_pos rfl] at H; exact H
              clear H
              have H := H1
              clear H1
              have HC10 := Aside0.mk H
              clear H
              have p174 : 0 ≤ (x12_1 : Int) := of_decide_eq_true (by first | (with_reducible assumption) | assumption)
              have q174 : x12_1 < (l2.length : Int) := of_decide_eq_true (by first | (with_reducible assumption) | assumption)
              obtain ⟨ad174, e174, hx174_0, hx174_1⟩ := at_T38 HR2.out x12_1 p174 q174
              cases e174
              replace hx174_0 := (HB.out.cell (World.block_lt_of_cell? w _ hx174_0)).trans hx174_0
              replace hx174_1 := (HB.out.cell (World.block_lt_of_cell? w _ hx174_1)).trans hx174_1
              replace p174 := eq_true p174
              replace q174 := eq_true q174
              go_upto_region 16 with (first | ((with_reducible refine gate_dst (N := 13) rfl ?_); refine box_event ?hg (N := 13) ?hd (cs := #[.int .u64 0, .int .u64 0]) (t := 38) ?hr ?_; (case hd => rfl); (case hg => rfl); (case hr => first | (go_simp; done) | (go_simp; rfl)); intro gb175 hg w11 hbox hb; have n0_ := Aside0.mk (below_step (by repeat (first | (with_reducible first | exact HB.out | apply below_alloc | apply pw_below_drewN | apply below_drew1) | exact HB.out)) hb); have n1_ := Aside0.mk (hbox); have n2_ := Aside0.mk ((by rw [hg]; exact (below_size (by repeat (first | (with_reducible first | exact HB.out | apply below_alloc | apply pw_below_drewN | apply below_drew1) | exact HB.out))) : w.heap.size ≤ gb175)); have n3_ := Aside0.mk ((by rw [hg]; exact (below_size (by repeat (first | (with_reducible first | exact HB.out | apply below_alloc | apply pw_below_drewN | apply below_drew1) | exact HB.out))) : w.heap.size ≤ gb175)); clear HB; have HB := n0_; have BK175 := n1_; have GW175 := n2_; have GE175 := n3_; clear n0_ n1_ n2_ n3_; clear hb hbox hg; have hcz12_0 : w11.cell? ⟨gb175, 0, none⟩ = some (.int .u64 0) := (blk_cell BK175.out 0).trans rfl; have hcz12_1 : w11.cell? ⟨gb175, 1, none⟩ = some (.int .u64 0) := (blk_cell BK175.out 1).trans rfl; have hfz12_0 := blk_frozen BK175.out 0; have hfz12_1 := blk_frozen BK175.out 1) | ((with_reducible refine gate_callee (f := 13) rfl ?_); refine goesL_ (some 39) rfl rfl Try.func13 (by kernel_rfl) rfl #[.int .u64 a0, .int .u64 a1, .int .u64 x8_1, .int .u64 x9_1, .int .u64 ((rd_T38 l2 x12_1).f0), .int .u64 ((rd_T38 l2 x12_1).f1)] rfl (by (try simp only [List.map_toArray, List.map_cons, List.map_nil]); first | done | rfl | (simp only [List.length_drop, List.length_take]; rfl)) ?_; (with_reducible refine (window_Admit.calls k1 a0 a1 x8_1 x9_1 ((rd_T38 l2 x12_1).f0) ((rd_T38 l2 x12_1).f1) t176 t177 true _ A8.out).mono ?_); rintro e w' ⟨rfl, ⟨nd, rfl⟩⟩; refine ⟨_, rfl, ?_⟩))
              (try simp only [Act.put, List.setIfInBounds_toArray, List.set_cons_zero, List.set_cons_succ])
              go_cut [72] (fun v72 wc => ∃ (kq : Nat) (x72_9 : Bool), v72 = .bool x72_9 ∧ Aside0 (turnstilelaw05_WindowSums.j1 kq a0 a1 l2 x10_1 x11_1 x12_1 t176 t177 x72_9 ((rd_T38 l2 x12_1).f0) ((rd_T38 l2 x12_1).f1) = some r) ∧ Aside0 (kq ≤ k1) ∧ Aside0 (wc.heap[gb175]? = some (.cells #[.int .u64 ((rd_T38 l2 x12_1).f0), .int .u64 ((rd_T38 l2 x12_1).f1)] 38 (0, 0))) ∧ Aside0 (Below w.heap.size w wc))
              case first =>
                have H := HC10.out
                clear HC10
                by_cases c13 : a1 = 0
                · rw [if_pos c13] at H
                  have c13b0 : (a1 == 0) = true := beq_iff_eq.mpr c13
                  have c13b1 : (a1 != 0) = false := bne_eq_false_iff_eq.mpr c13
                  clear c13
                  (first | rw [c13b0] | (simp only [i64_w, i32_w]; rw [c13b0]) | skip)
                  have H' := Aside0.mk H
                  clear H
                  go_wp2
                  go_meet
                  case rel => exact ⟨_, (true), (by first | rfl | (simp; done) | (simp [*]; done)), H', ⟨by have := HK1.out; first | omega | exact Nat.le_refl _⟩, ⟨by (with_reducible repeat (first | refine blk_drewN ?_ _ | refine blk_drew ?_ | refine blk_alloc ?_ _)); refine blk_put (cs := #[.int .u64 ((rd_T38 l2 x12_1).f0), .int .u64 0]) ?_ 1 _ rfl; (with_reducible repeat (first | refine blk_drewN ?_ _ | refine blk_drew ?_ | refine blk_alloc ?_ _)); refine blk_put (cs := #[.int .u64 0, .int .u64 0]) ?_ 0 _ rfl; (with_reducible repeat (first | refine blk_drewN ?_ _ | refine blk_drew ?_ | refine blk_alloc ?_ _)); exact BK175.out⟩, ⟨by repeat (first | (with_reducible first | exact HB.out | apply below_alloc | apply pw_below_drewN | apply below_drew1 | refine below_set ?_ GE175.out) | exact HB.out)⟩⟩
                · rw [if_neg c13] at H
                  have c13b0 : (a1 == 0) = false := beq_eq_false_iff_ne.mpr c13
                  have c13b1 : (a1 != 0) = true := bne_iff_ne.mpr c13
                  (first | rw [c13b0] | (simp only [i64_w, i32_w]; rw [c13b0]) | skip)
                  by_cases c14 : ((rd_T38 l2 x12_1).f1) = 0
                  · rw [if_pos c14] at H
                    have c14b0 : (((rd_T38 l2 x12_1).f1) == 0) = true := beq_iff_eq.mpr c14
                    have c14b1 : (((rd_T38 l2 x12_1).f1) != 0) = false := bne_eq_false_iff_eq.mpr c14
                    clear c14
                    have H' := Aside0.mk H
                    clear H
                    have hcz15_0 : w11.cell? ⟨gb175, 0, none⟩ = some (.int .u64 0) := (blk_cell BK175.out 0).trans rfl
                    have hcz15_1 : w11.cell? ⟨gb175, 1, none⟩ = some (.int .u64 0) := (blk_cell BK175.out 1).trans rfl
                    have hfz15_0 := blk_frozen BK175.out 0
                    have hfz15_1 := blk_frozen BK175.out 1
                    go_wp2
                    go_meet
                    case rel => exact ⟨_, (true), (by first | rfl | (simp; done) | (simp [*]; done)), H', ⟨by have := HK1.out; first | omega | exact Nat.le_refl _⟩, ⟨by (with_reducible repeat (first | refine blk_drewN ?_ _ | refine blk_drew ?_ | refine blk_alloc ?_ _)); refine blk_put (cs := #[.int .u64 ((rd_T38 l2 x12_1).f0), .int .u64 0]) ?_ 1 _ rfl; (with_reducible repeat (first | refine blk_drewN ?_ _ | refine blk_drew ?_ | refine blk_alloc ?_ _)); refine blk_put (cs := #[.int .u64 0, .int .u64 0]) ?_ 0 _ rfl; (with_reducible repeat (first | refine blk_drewN ?_ _ | refine blk_drew ?_ | refine blk_alloc ?_ _)); exact BK175.out⟩, ⟨by repeat (first | (with_reducible first | exact HB.out | apply below_alloc | apply pw_below_drewN | apply below_drew1 | refine below_set ?_ GE175.out) | exact HB.out)⟩⟩
                  · rw [if_neg c14] at H
                    have c14b0 : (((rd_T38 l2 x12_1).f1) == 0) = false := beq_eq_false_iff_ne.mpr c14
                    have c14b1 : (((rd_T38 l2 x12_1).f1) != 0) = true := bne_iff_ne.mpr c14
                    by_cases c16 : (IntKind.u64.wrap (Int.tdiv ((rd_T38 l2 x12_1).f0) a1)) = t176
                    · rw [if_pos c16] at H
                      have c16b0 : ((IntKind.u64.wrap (Int.tdiv ((rd_T38 l2 x12_1).f0) a1)) == t176) = true := beq_iff_eq.mpr c16
                      have c16b1 : ((IntKind.u64.wrap (Int.tdiv ((rd_T38 l2 x12_1).f0) a1)) != t176) = false := bne_eq_false_iff_eq.mpr c16
                      clear c16
                      have H' := Aside0.mk H
                      clear H
                      have hcz17_0 : w11.cell? ⟨gb175, 0, none⟩ = some (.int .u64 0) := (blk_cell BK175.out 0).trans rfl
                      have hcz17_1 : w11.cell? ⟨gb175, 1, none⟩ = some (.int .u64 0) := (blk_cell BK175.out 1).trans rfl
                      have hfz17_0 := blk_frozen BK175.out 0
                      have hfz17_1 := blk_frozen BK175.out 1
                      go_wp2
                      go_meet
                      case rel => exact ⟨_, (decide (t176 < x11_1)), (by first | rfl | (simp; done) | (simp [*]; done)), H', ⟨by have := HK1.out; first | omega | exact Nat.le_refl _⟩, ⟨by (with_reducible repeat (first | refine blk_drewN ?_ _ | refine blk_drew ?_ | refine blk_alloc ?_ _)); refine blk_put (cs := #[.int .u64 ((rd_T38 l2 x12_1).f0), .int .u64 0]) ?_ 1 _ rfl; (with_reducible repeat (first | refine blk_drewN ?_ _ | refine blk_drew ?_ | refine blk_alloc ?_ _)); refine blk_put (cs := #[.int .u64 0, .int .u64 0]) ?_ 0 _ rfl; (with_reducible repeat (first | refine blk_drewN ?_ _ | refine blk_drew ?_ | refine blk_alloc ?_ _)); exact BK175.out⟩, ⟨by repeat (first | (with_reducible first | exact HB.out | apply below_alloc | apply pw_below_drewN | apply below_drew1 | refine below_set ?_ GE175.out) | exact HB.out)⟩⟩
                    · rw [if_neg c16] at H
                      have c16b0 : ((IntKind.u64.wrap (Int.tdiv ((rd_T38 l2 x12_1).f0) a1)) == t176) = false := beq_eq_false_iff_ne.mpr c16
                      have c16b1 : ((IntKind.u64.wrap (Int.tdiv ((rd_T38 l2 x12_1).f0) a1)) != t176) = true := bne_iff_ne.mpr c16
                      have H' := Aside0.mk H
                      clear H
                      have hcz18_0 : w11.cell? ⟨gb175, 0, none⟩ = some (.int .u64 0) := (blk_cell BK175.out 0).trans rfl
                      have hcz18_1 : w11.cell? ⟨gb175, 1, none⟩ = some (.int .u64 0) := (blk_cell BK175.out 1).trans rfl
                      have hfz18_0 := blk_frozen BK175.out 0
                      have hfz18_1 := blk_frozen BK175.out 1
                      go_wp2
                      go_meet
                      case rel => exact ⟨_, (true), (by first | rfl | (simp; done) | (simp [*]; done)), H', ⟨by have := HK1.out; first | omega | exact Nat.le_refl _⟩, ⟨by (with_reducible repeat (first | refine blk_drewN ?_ _ | refine blk_drew ?_ | refine blk_alloc ?_ _)); refine blk_put (cs := #[.int .u64 ((rd_T38 l2 x12_1).f0), .int .u64 0]) ?_ 1 _ rfl; (with_reducible repeat (first | refine blk_drewN ?_ _ | refine blk_drew ?_ | refine blk_alloc ?_ _)); refine blk_put (cs := #[.int .u64 0, .int .u64 0]) ?_ 0 _ rfl; (with_reducible repeat (first | refine blk_drewN ?_ _ | refine blk_drew ?_ | refine blk_alloc ?_ _)); exact BK175.out⟩, ⟨by repeat (first | (with_reducible first | exact HB.out | apply below_alloc | apply pw_below_drewN | apply below_drew1 | refine below_set ?_ GE175.out) | exact HB.out)⟩⟩
              case rest =>
                clear HC10
                try clear c1
                try clear p1
                try clear q1
                try clear hx1
                try clear c2
                try clear p2
                try clear c5
                try clear c6
                try clear c6b0
                try clear p6
                try clear c7
                try clear c7b0
                try clear c8
                try clear c9
                try clear c13
                try clear c13b0
                try clear c13b1
                try clear c14
                try clear c14b0
                try clear c14b1
                try clear c16
                try clear c16b0
                try clear c16b1
                try clear p17
                try clear q17
                try clear hx17
                try clear hcz12_0
                try clear hcz12_1
                try clear hcz15_0
                try clear hcz15_1
                try clear hcz17_0
                try clear hcz17_1
                try clear hcz18_0
                try clear hcz18_1
                try clear hfz12_0
                try clear hfz12_1
                try clear hfz15_0
                try clear hfz15_1
                try clear hfz17_0
                try clear hfz17_1
                try clear hfz18_0
                try clear hfz18_1
                try clear hx174_0
                try clear hx174_1
                try clear p174
                try clear p2
                try clear q174
                obtain ⟨kq, x72_9, rfl, HA, HJ9, BK175, HB⟩ := hcut
                cases kq with
                | zero => exact absurd HA.out (by simp [turnstilelaw05_WindowSums.j1])
                | succ kj9 =>
                  have H := HA.out
                  clear HA
                  simp only [turnstilelaw05_WindowSums.j1] at H
                  by_cases c19 : x72_9 = true
                  · subst c19
                    have H1 : (some false) = some r := by rw [if_pos rfl] at H; exact H
                    clear H
                    have H := H1
                    clear H1
                    obtain rfl := Option.some.inj H
                    go_wp2
                    go_ret
                    exact ⟨by first | rfl | (simp [errW_none, errW_some] <;> rfl) | (simp [*, errW_none, errW_some] <;> rfl), by repeat (first | (with_reducible first | exact HB.out | apply below_alloc | apply pw_below_drewN | apply below_drew1 | refine below_set ?_ GE175.out) | exact HB.out)⟩
                  · replace c19 := Bool.eq_false_iff.mpr c19
                    subst c19
                    have H1 : (if t176 > x11_1 then (turnstilelaw05_WindowSums.j2 kj9 a0 a1 l2 0 t176 x12_1 t176 t177 ((rd_T38 l2 x12_1).f0) ((rd_T38 l2 x12_1).f1)) else (turnstilelaw05_WindowSums.j2 kj9 a0 a1 l2 x10_1 x11_1 x12_1 t176 t177 ((rd_T38 l2 x12_1).f0) ((rd_T38 l2 x12_1).f1))) = some r := by rw [if_neg (show ¬ (false = true) by decide)] at H; exact H
                    clear H
                    have H := H1
                    clear H1
                    have HC20 := Aside0.mk H
                    clear H
                    go_upto_if 75 with (fail)
                    go_cut [10, 11] (fun v10 v11 wc => ∃ (kq : Nat) (x10_19 : Int) (x11_19 : Int), v10 = .int .u64 x10_19 ∧ v11 = .int .u64 x11_19 ∧ Aside0 (turnstilelaw05_WindowSums.j2 kq a0 a1 l2 x10_19 x11_19 x12_1 t176 t177 ((rd_T38 l2 x12_1).f0) ((rd_T38 l2 x12_1).f1) = some r) ∧ Aside0 (kq ≤ kj9) ∧ Aside0 (wc.heap[gb175]? = some (.cells #[.int .u64 ((rd_T38 l2 x12_1).f0), .int .u64 ((rd_T38 l2 x12_1).f1)] 38 (0, 0))) ∧ Aside0 (Below w.heap.size w wc))
                    case first =>
                      have H := HC20.out
                      clear HC20
                      by_cases c21 : t176 > x11_1
                      · rw [if_pos c21] at H
                        have c21b0 : decide (x11_1 < t176) = true := decide_eq_true c21
                        clear c21
                        (first | rw [c21b0] | (simp only [i64_w, i32_w]; rw [c21b0]) | skip)
                        have H' := Aside0.mk H
                        clear H
                        go_wp2
                        go_meet
                        case rel => exact ⟨_, (0), (t176), (by first | rfl | (simp; done) | (simp [*]; done)), (by first | rfl | (simp; done) | (simp [*]; done)), H', ⟨by have := HK1.out; have := HJ9.out; first | omega | exact Nat.le_refl _⟩, ⟨by (with_reducible repeat (first | refine blk_drewN ?_ _ | refine blk_drew ?_ | refine blk_alloc ?_ _)); exact BK175.out⟩, ⟨by repeat (first | (with_reducible first | exact HB.out | apply below_alloc | apply pw_below_drewN | apply below_drew1 | refine below_set ?_ GE175.out) | exact HB.out)⟩⟩
                      · rw [if_neg c21] at H
                        have c21b0 : decide (x11_1 < t176) = false := decide_eq_false c21
                        clear c21
                        (first | rw [c21b0] | (simp only [i64_w, i32_w]; rw [c21b0]) | skip)
                        have H' := Aside0.mk H
                        clear H
                        go_wp2
                        go_meet
                        case rel => exact ⟨_, (x10_1), (x11_1), (by first | rfl | (simp; done) | (simp [*]; done)), (by first | rfl | (simp; done) | (simp [*]; done)), H', ⟨by have := HK1.out; have := HJ9.out; first | omega | exact Nat.le_refl _⟩, ⟨by (with_reducible repeat (first | refine blk_drewN ?_ _ | refine blk_drew ?_ | refine blk_alloc ?_ _)); exact BK175.out⟩, ⟨by repeat (first | (with_reducible first | exact HB.out | apply below_alloc | apply pw_below_drewN | apply below_drew1 | refine below_set ?_ GE175.out) | exact HB.out)⟩⟩
                    case rest =>
                      clear HC20
                      try clear c1
                      try clear p1
                      try clear q1
                      try clear hx1
                      try clear c2
                      try clear p2
                      try clear c5
                      try clear c6
                      try clear c6b0
                      try clear p6
                      try clear c7
                      try clear c7b0
                      try clear c8
                      try clear c9
                      try clear c13
                      try clear c13b0
                      try clear c13b1
                      try clear c14
                      try clear c14b0
                      try clear c14b1
                      try clear c16
                      try clear c16b0
                      try clear c16b1
                      try clear p17
                      try clear q17
                      try clear hx17
                      try clear c19
                      try clear c21
                      try clear c21b0
                      try clear hcz12_0
                      try clear hcz12_1
                      try clear hcz15_0
                      try clear hcz15_1
                      try clear hcz17_0
                      try clear hcz17_1
                      try clear hcz18_0
                      try clear hcz18_1
                      try clear hfz12_0
                      try clear hfz12_1
                      try clear hfz15_0
                      try clear hfz15_1
                      try clear hfz17_0
                      try clear hfz17_1
                      try clear hfz18_0
                      try clear hfz18_1
                      try clear hx174_0
                      try clear hx174_1
                      try clear p1
                      try clear p17
                      try clear p174
                      try clear p2
                      try clear p6
                      try clear q1
                      try clear q17
                      try clear q174
                      obtain ⟨kq, x10_19, x11_19, rfl, rfl, HA, HJ19, BK175, HB⟩ := hcut
                      cases kq with
                      | zero => exact absurd HA.out (by simp [turnstilelaw05_WindowSums.j2])
                      | succ kj19 =>
                        have H := HA.out
                        clear HA
                        simp only [turnstilelaw05_WindowSums.j2] at H
                        have HC22 := Aside0.mk H
                        clear H
                        go_upto_region 21 with (fail)
                        go_cut [88] (fun v88 wc => ∃ (kq : Nat) (x88_21 : Bool), v88 = .bool x88_21 ∧ Aside0 (turnstilelaw05_WindowSums.j3 kq a0 a1 l2 x10_19 x11_19 x12_1 t176 t177 x88_21 ((rd_T38 l2 x12_1).f0) ((rd_T38 l2 x12_1).f1) = some r) ∧ Aside0 (kq ≤ kj19) ∧ Aside0 (wc.heap[gb175]? = some (.cells #[.int .u64 ((rd_T38 l2 x12_1).f0), .int .u64 ((rd_T38 l2 x12_1).f1)] 38 (0, 0))) ∧ Aside0 (Below w.heap.size w wc))
                        case first =>
                          have H := HC22.out
                          clear HC22
                          by_cases c23 : ((rd_T38 l2 x12_1).f1) > a0
                          · rw [if_pos c23] at H
                            have c23b0 : decide (a0 < ((rd_T38 l2 x12_1).f1)) = true := decide_eq_true c23
                            clear c23
                            (first | rw [c23b0] | (simp only [i64_w, i32_w]; rw [c23b0]) | skip)
                            have H' := Aside0.mk H
                            clear H
                            have hcz24_0 : wc.cell? ⟨gb175, 0, none⟩ = some (.int .u64 ((rd_T38 l2 x12_1).f0)) := (blk_cell BK175.out 0).trans rfl
                            have hcz24_1 : wc.cell? ⟨gb175, 1, none⟩ = some (.int .u64 ((rd_T38 l2 x12_1).f1)) := (blk_cell BK175.out 1).trans rfl
                            have hfz24_0 := blk_frozen BK175.out 0
                            have hfz24_1 := blk_frozen BK175.out 1
                            go_wp2
                            go_meet
                            case rel => exact ⟨_, (true), (by first | rfl | (simp; done) | (simp [*]; done)), H', ⟨by have := HK1.out; have := HJ9.out; have := HJ19.out; first | omega | exact Nat.le_refl _⟩, ⟨by (with_reducible repeat (first | refine blk_drewN ?_ _ | refine blk_drew ?_ | refine blk_alloc ?_ _)); exact BK175.out⟩, ⟨by repeat (first | (with_reducible first | exact HB.out | apply below_alloc | apply pw_below_drewN | apply below_drew1 | refine below_set ?_ GE175.out) | exact HB.out)⟩⟩
                          · rw [if_neg c23] at H
                            have c23b0 : decide (a0 < ((rd_T38 l2 x12_1).f1)) = false := decide_eq_false c23
                            clear c23
                            (first | rw [c23b0] | (simp only [i64_w, i32_w]; rw [c23b0]) | skip)
                            have H' := Aside0.mk H
                            clear H
                            have hcz25_0 : wc.cell? ⟨gb175, 0, none⟩ = some (.int .u64 ((rd_T38 l2 x12_1).f0)) := (blk_cell BK175.out 0).trans rfl
                            have hcz25_1 : wc.cell? ⟨gb175, 1, none⟩ = some (.int .u64 ((rd_T38 l2 x12_1).f1)) := (blk_cell BK175.out 1).trans rfl
                            have hfz25_0 := blk_frozen BK175.out 0
                            have hfz25_1 := blk_frozen BK175.out 1
                            go_wp2
                            go_meet
                            case rel => exact ⟨_, (decide (x10_19 > (IntKind.u64.wrap (a0 - ((rd_T38 l2 x12_1).f1))))), (by first | rfl | (simp; done) | (simp [*]; done)), H', ⟨by have := HK1.out; have := HJ9.out; have := HJ19.out; first | omega | exact Nat.le_refl _⟩, ⟨by (with_reducible repeat (first | refine blk_drewN ?_ _ | refine blk_drew ?_ | refine blk_alloc ?_ _)); exact BK175.out⟩, ⟨by repeat (first | (with_reducible first | exact HB.out | apply below_alloc | apply pw_below_drewN | apply below_drew1 | refine below_set ?_ GE175.out) | exact HB.out)⟩⟩
                        case rest =>
                          clear HC22
                          try clear c1
                          try clear p1
                          try clear q1
                          try clear hx1
                          try clear c2
                          try clear p2
                          try clear c5
                          try clear c6
                          try clear c6b0
                          try clear p6
                          try clear c7
                          try clear c7b0
                          try clear c8
                          try clear c9
                          try clear c13
                          try clear c13b0
                          try clear c13b1
                          try clear c14
                          try clear c14b0
                          try clear c14b1
                          try clear c16
                          try clear c16b0
                          try clear c16b1
                          try clear p17
                          try clear q17
                          try clear hx17
                          try clear c19
                          try clear c21
                          try clear c21b0
                          try clear c23
                          try clear c23b0
                          try clear hcz12_0
                          try clear hcz12_1
                          try clear hcz15_0
                          try clear hcz15_1
                          try clear hcz17_0
                          try clear hcz17_1
                          try clear hcz18_0
                          try clear hcz18_1
                          try clear hcz24_0
                          try clear hcz24_1
                          try clear hcz25_0
                          try clear hcz25_1
                          try clear hfz12_0
                          try clear hfz12_1
                          try clear hfz15_0
                          try clear hfz15_1
                          try clear hfz17_0
                          try clear hfz17_1
                          try clear hfz18_0
                          try clear hfz18_1
                          try clear hfz24_0
                          try clear hfz24_1
                          try clear hfz25_0
                          try clear hfz25_1
                          try clear hx174_0
                          try clear hx174_1
                          try clear p1
                          try clear p17
                          try clear p174
                          try clear p2
                          try clear p6
                          try clear q1
                          try clear q17
                          try clear q174
                          obtain ⟨kq, x88_21, rfl, HA, HJ21, BK175, HB⟩ := hcut
                          cases kq with
                          | zero => exact absurd HA.out (by simp [turnstilelaw05_WindowSums.j3])
                          | succ kj21 =>
                            have H := HA.out
                            clear HA
                            simp only [turnstilelaw05_WindowSums.j3] at H
                            by_cases c26 : x88_21 = true
                            · subst c26
                              have H1 : (some false) = some r := by rw [if_pos rfl] at H; exact H
                              clear H
                              have H := H1
                              clear H1
                              obtain rfl := Option.some.inj H
                              go_wp2
                              go_ret
                              exact ⟨by first | rfl | (simp [errW_none, errW_some] <;> rfl) | (simp [*, errW_none, errW_some] <;> rfl), by repeat (first | (with_reducible first | exact HB.out | apply below_alloc | apply pw_below_drewN | apply below_drew1 | refine below_set ?_ GE175.out) | exact HB.out)⟩
                            · replace c26 := Bool.eq_false_iff.mpr c26
                              subst c26
                              have H1 : (if t177 = (IntKind.u64.wrap (x10_19 + ((rd_T38 l2 x12_1).f1))) then (turnstilelaw05_WindowSums.l0 kj21 a0 a1 l2 t176 t177 (IntKind.u64.wrap (x10_19 + ((rd_T38 l2 x12_1).f1))) x11_19 (wrap64 (x12_1 + 1))) else (some false)) = some r := by rw [if_neg (show ¬ (false = true) by decide)] at H; exact H
                              clear H
                              have H := H1
                              clear H1
                              by_cases c27 : t177 = (IntKind.u64.wrap (x10_19 + ((rd_T38 l2 x12_1).f1)))
                              · rw [if_pos c27] at H
                                have c27b0 : (t177 == (IntKind.u64.wrap (x10_19 + ((rd_T38 l2 x12_1).f1)))) = true := beq_iff_eq.mpr c27
                                have c27b1 : (t177 != (IntKind.u64.wrap (x10_19 + ((rd_T38 l2 x12_1).f1)))) = false := bne_eq_false_iff_eq.mpr c27
                                clear c27
                                have H' := Aside0.mk H
                                clear H
                                have hcz28_0 : wc.cell? ⟨gb175, 0, none⟩ = some (.int .u64 ((rd_T38 l2 x12_1).f0)) := (blk_cell BK175.out 0).trans rfl
                                have hcz28_1 : wc.cell? ⟨gb175, 1, none⟩ = some (.int .u64 ((rd_T38 l2 x12_1).f1)) := (blk_cell BK175.out 1).trans rfl
                                have hfz28_0 := blk_frozen BK175.out 0
                                have hfz28_1 := blk_frozen BK175.out 1
                                go_wp2
                                go_roundg kj21
                                case measure => have := HK1.out; have := HJ9.out; have := HJ19.out; have := HJ21.out; omega
                                case rel => exact ⟨(t176), (t177), (IntKind.u64.wrap (x10_19 + ((rd_T38 l2 x12_1).f1))), (x11_19), (wrap64 (x12_1 + 1)), (by first | rfl | (simp; done) | (simp [*]; done)), (by first | rfl | (simp; done) | (simp [*]; done)), (by first | rfl | (simp; done) | (simp [*]; done)), (by first | rfl | (simp; done) | (simp [*]; done)), (by first | rfl | (simp; done) | (simp [*]; done)), H', ⟨by have := HK1.out; have := HJ9.out; have := HJ19.out; have := HJ21.out; omega⟩, ⟨by repeat (first | (with_reducible first | exact HB.out | apply below_alloc | apply pw_below_drewN | apply below_drew1 | refine below_set ?_ GE175.out) | exact HB.out)⟩⟩
                              · rw [if_neg c27] at H
                                have c27b0 : (t177 == (IntKind.u64.wrap (x10_19 + ((rd_T38 l2 x12_1).f1)))) = false := beq_eq_false_iff_ne.mpr c27
                                have c27b1 : (t177 != (IntKind.u64.wrap (x10_19 + ((rd_T38 l2 x12_1).f1)))) = true := bne_iff_ne.mpr c27
                                obtain rfl := Option.some.inj H
                                have hcz29_0 : wc.cell? ⟨gb175, 0, none⟩ = some (.int .u64 ((rd_T38 l2 x12_1).f0)) := (blk_cell BK175.out 0).trans rfl
                                have hcz29_1 : wc.cell? ⟨gb175, 1, none⟩ = some (.int .u64 ((rd_T38 l2 x12_1).f1)) := (blk_cell BK175.out 1).trans rfl
                                have hfz29_0 := blk_frozen BK175.out 0
                                have hfz29_1 := blk_frozen BK175.out 1
                                go_wp2
                                go_ret
                                exact ⟨by first | rfl | (simp [errW_none, errW_some] <;> rfl) | (simp [*, errW_none, errW_some] <;> rfl), by repeat (first | (with_reducible first | exact HB.out | apply below_alloc | apply pw_below_drewN | apply below_drew1 | refine below_set ?_ GE175.out) | exact HB.out)⟩
            · replace c9 := Bool.eq_false_iff.mpr c9
              subst c9
              have H1 : (if t176 = x8_1 then (if t177 = x9_1 then (turnstilelaw05_WindowSums.l0 k1 a0 a1 l2 x8_1 x9_1 x10_1 x11_1 (wrap64 (x12_1 + 1))) else (some false)) else (some false)) = some r := by rw [if_neg (show ¬ (false = true) by decide)] at H; exact H
              clear H
              have H := H1
              clear H1
              by_cases c30 : t176 = x8_1
              · rw [if_pos c30] at H
                have c30b0 : (t176 == x8_1) = true := beq_iff_eq.mpr c30
                have c30b1 : (t176 != x8_1) = false := bne_eq_false_iff_eq.mpr c30
                clear c30
                by_cases c31 : t177 = x9_1
                · rw [if_pos c31] at H
                  have c31b0 : (t177 == x9_1) = true := beq_iff_eq.mpr c31
                  have c31b1 : (t177 != x9_1) = false := bne_eq_false_iff_eq.mpr c31
                  clear c31
                  have H' := Aside0.mk H
                  clear H
                  have p174 : 0 ≤ (x12_1 : Int) := of_decide_eq_true (by first | (with_reducible assumption) | assumption)
                  have q174 : x12_1 < (l2.length : Int) := of_decide_eq_true (by first | (with_reducible assumption) | assumption)
                  obtain ⟨ad174, e174, hx174_0, hx174_1⟩ := at_T38 HR2.out x12_1 p174 q174
                  cases e174
                  replace hx174_0 := (HB.out.cell (World.block_lt_of_cell? w _ hx174_0)).trans hx174_0
                  replace hx174_1 := (HB.out.cell (World.block_lt_of_cell? w _ hx174_1)).trans hx174_1
                  replace p174 := eq_true p174
                  replace q174 := eq_true q174
                  go_wp2_with (first | ((with_reducible refine gate_dst (N := 13) rfl ?_); refine box_event ?hg (N := 13) ?hd (cs := #[.int .u64 0, .int .u64 0]) (t := 38) ?hr ?_; (case hd => rfl); (case hg => rfl); (case hr => first | (go_simp; done) | (go_simp; rfl)); intro gb175 hg w32 hbox hb; have n0_ := Aside0.mk (below_step (by repeat (first | (with_reducible first | exact HB.out | apply below_alloc | apply pw_below_drewN | apply below_drew1) | exact HB.out)) hb); have n1_ := Aside0.mk (hbox); have n2_ := Aside0.mk ((by rw [hg]; exact (below_size (by repeat (first | (with_reducible first | exact HB.out | apply below_alloc | apply pw_below_drewN | apply below_drew1) | exact HB.out))) : w.heap.size ≤ gb175)); have n3_ := Aside0.mk ((by rw [hg]; exact (below_size (by repeat (first | (with_reducible first | exact HB.out | apply below_alloc | apply pw_below_drewN | apply below_drew1) | exact HB.out))) : w.heap.size ≤ gb175)); clear HB; have HB := n0_; have BK175 := n1_; have GW175 := n2_; have GE175 := n3_; clear n0_ n1_ n2_ n3_; clear hb hbox hg; have hcz33_0 : w32.cell? ⟨gb175, 0, none⟩ = some (.int .u64 0) := (blk_cell BK175.out 0).trans rfl; have hcz33_1 : w32.cell? ⟨gb175, 1, none⟩ = some (.int .u64 0) := (blk_cell BK175.out 1).trans rfl; have hfz33_0 := blk_frozen BK175.out 0; have hfz33_1 := blk_frozen BK175.out 1) | ((with_reducible refine gate_callee (f := 13) rfl ?_); refine goesL_ (some 39) rfl rfl Try.func13 (by kernel_rfl) rfl #[.int .u64 a0, .int .u64 a1, .int .u64 x8_1, .int .u64 x9_1, .int .u64 ((rd_T38 l2 x12_1).f0), .int .u64 ((rd_T38 l2 x12_1).f1)] rfl (by (try simp only [List.map_toArray, List.map_cons, List.map_nil]); first | done | rfl | (simp only [List.length_drop, List.length_take]; rfl)) ?_; (with_reducible refine (window_Admit.calls k1 a0 a1 x8_1 x9_1 ((rd_T38 l2 x12_1).f0) ((rd_T38 l2 x12_1).f1) t176 t177 false _ A8.out).mono ?_); rintro e w' ⟨rfl, ⟨nd, rfl⟩⟩; refine ⟨_, rfl, ?_⟩))
                  go_roundg k1
                  case measure => have := HK1.out; omega
                  case rel => exact ⟨(x8_1), (x9_1), (x10_1), (x11_1), (wrap64 (x12_1 + 1)), (by first | rfl | (simp; done) | (simp [*]; done)), (by first | rfl | (simp; done) | (simp [*]; done)), (by first | rfl | (simp; done) | (simp [*]; done)), (by first | rfl | (simp; done) | (simp [*]; done)), (by first | rfl | (simp; done) | (simp [*]; done)), H', ⟨by have := HK1.out; omega⟩, ⟨by repeat (first | (with_reducible first | exact HB.out | apply below_alloc | apply pw_below_drewN | apply below_drew1 | refine below_set ?_ GE175.out) | exact HB.out)⟩⟩
                · rw [if_neg c31] at H
                  have c31b0 : (t177 == x9_1) = false := beq_eq_false_iff_ne.mpr c31
                  have c31b1 : (t177 != x9_1) = true := bne_iff_ne.mpr c31
                  obtain rfl := Option.some.inj H
                  have p174 : 0 ≤ (x12_1 : Int) := of_decide_eq_true (by first | (with_reducible assumption) | assumption)
                  have q174 : x12_1 < (l2.length : Int) := of_decide_eq_true (by first | (with_reducible assumption) | assumption)
                  obtain ⟨ad174, e174, hx174_0, hx174_1⟩ := at_T38 HR2.out x12_1 p174 q174
                  cases e174
                  replace hx174_0 := (HB.out.cell (World.block_lt_of_cell? w _ hx174_0)).trans hx174_0
                  replace hx174_1 := (HB.out.cell (World.block_lt_of_cell? w _ hx174_1)).trans hx174_1
                  replace p174 := eq_true p174
                  replace q174 := eq_true q174
                  go_wp2_with (first | ((with_reducible refine gate_dst (N := 13) rfl ?_); refine box_event ?hg (N := 13) ?hd (cs := #[.int .u64 0, .int .u64 0]) (t := 38) ?hr ?_; (case hd => rfl); (case hg => rfl); (case hr => first | (go_simp; done) | (go_simp; rfl)); intro gb175 hg w34 hbox hb; have n0_ := Aside0.mk (below_step (by repeat (first | (with_reducible first | exact HB.out | apply below_alloc | apply pw_below_drewN | apply below_drew1) | exact HB.out)) hb); have n1_ := Aside0.mk (hbox); have n2_ := Aside0.mk ((by rw [hg]; exact (below_size (by repeat (first | (with_reducible first | exact HB.out | apply below_alloc | apply pw_below_drewN | apply below_drew1) | exact HB.out))) : w.heap.size ≤ gb175)); have n3_ := Aside0.mk ((by rw [hg]; exact (below_size (by repeat (first | (with_reducible first | exact HB.out | apply below_alloc | apply pw_below_drewN | apply below_drew1) | exact HB.out))) : w.heap.size ≤ gb175)); clear HB; have HB := n0_; have BK175 := n1_; have GW175 := n2_; have GE175 := n3_; clear n0_ n1_ n2_ n3_; clear hb hbox hg; have hcz35_0 : w34.cell? ⟨gb175, 0, none⟩ = some (.int .u64 0) := (blk_cell BK175.out 0).trans rfl; have hcz35_1 : w34.cell? ⟨gb175, 1, none⟩ = some (.int .u64 0) := (blk_cell BK175.out 1).trans rfl; have hfz35_0 := blk_frozen BK175.out 0; have hfz35_1 := blk_frozen BK175.out 1) | ((with_reducible refine gate_callee (f := 13) rfl ?_); refine goesL_ (some 39) rfl rfl Try.func13 (by kernel_rfl) rfl #[.int .u64 a0, .int .u64 a1, .int .u64 x8_1, .int .u64 x9_1, .int .u64 ((rd_T38 l2 x12_1).f0), .int .u64 ((rd_T38 l2 x12_1).f1)] rfl (by (try simp only [List.map_toArray, List.map_cons, List.map_nil]); first | done | rfl | (simp only [List.length_drop, List.length_take]; rfl)) ?_; (with_reducible refine (window_Admit.calls k1 a0 a1 x8_1 x9_1 ((rd_T38 l2 x12_1).f0) ((rd_T38 l2 x12_1).f1) t176 t177 false _ A8.out).mono ?_); rintro e w' ⟨rfl, ⟨nd, rfl⟩⟩; refine ⟨_, rfl, ?_⟩))
                  go_ret
                  exact ⟨by first | rfl | (simp [errW_none, errW_some] <;> rfl) | (simp [*, errW_none, errW_some] <;> rfl), by repeat (first | (with_reducible first | exact HB.out | apply below_alloc | apply pw_below_drewN | apply below_drew1 | refine below_set ?_ GE175.out) | exact HB.out)⟩
              · rw [if_neg c30] at H
                have c30b0 : (t176 == x8_1) = false := beq_eq_false_iff_ne.mpr c30
                have c30b1 : (t176 != x8_1) = true := bne_iff_ne.mpr c30
                obtain rfl := Option.some.inj H
                have p174 : 0 ≤ (x12_1 : Int) := of_decide_eq_true (by first | (with_reducible assumption) | assumption)
                have q174 : x12_1 < (l2.length : Int) := of_decide_eq_true (by first | (with_reducible assumption) | assumption)
                obtain ⟨ad174, e174, hx174_0, hx174_1⟩ := at_T38 HR2.out x12_1 p174 q174
                cases e174
                replace hx174_0 := (HB.out.cell (World.block_lt_of_cell? w _ hx174_0)).trans hx174_0
                replace hx174_1 := (HB.out.cell (World.block_lt_of_cell? w _ hx174_1)).trans hx174_1
                replace p174 := eq_true p174
                replace q174 := eq_true q174
                go_wp2_with (first | ((with_reducible refine gate_dst (N := 13) rfl ?_); refine box_event ?hg (N := 13) ?hd (cs := #[.int .u64 0, .int .u64 0]) (t := 38) ?hr ?_; (case hd => rfl); (case hg => rfl); (case hr => first | (go_simp; done) | (go_simp; rfl)); intro gb175 hg w36 hbox hb; have n0_ := Aside0.mk (below_step (by repeat (first | (with_reducible first | exact HB.out | apply below_alloc | apply pw_below_drewN | apply below_drew1) | exact HB.out)) hb); have n1_ := Aside0.mk (hbox); have n2_ := Aside0.mk ((by rw [hg]; exact (below_size (by repeat (first | (with_reducible first | exact HB.out | apply below_alloc | apply pw_below_drewN | apply below_drew1) | exact HB.out))) : w.heap.size ≤ gb175)); have n3_ := Aside0.mk ((by rw [hg]; exact (below_size (by repeat (first | (with_reducible first | exact HB.out | apply below_alloc | apply pw_below_drewN | apply below_drew1) | exact HB.out))) : w.heap.size ≤ gb175)); clear HB; have HB := n0_; have BK175 := n1_; have GW175 := n2_; have GE175 := n3_; clear n0_ n1_ n2_ n3_; clear hb hbox hg; have hcz37_0 : w36.cell? ⟨gb175, 0, none⟩ = some (.int .u64 0) := (blk_cell BK175.out 0).trans rfl; have hcz37_1 : w36.cell? ⟨gb175, 1, none⟩ = some (.int .u64 0) := (blk_cell BK175.out 1).trans rfl; have hfz37_0 := blk_frozen BK175.out 0; have hfz37_1 := blk_frozen BK175.out 1) | ((with_reducible refine gate_callee (f := 13) rfl ?_); refine goesL_ (some 39) rfl rfl Try.func13 (by kernel_rfl) rfl #[.int .u64 a0, .int .u64 a1, .int .u64 x8_1, .int .u64 x9_1, .int .u64 ((rd_T38 l2 x12_1).f0), .int .u64 ((rd_T38 l2 x12_1).f1)] rfl (by (try simp only [List.map_toArray, List.map_cons, List.map_nil]); first | done | rfl | (simp only [List.length_drop, List.length_take]; rfl)) ?_; (with_reducible refine (window_Admit.calls k1 a0 a1 x8_1 x9_1 ((rd_T38 l2 x12_1).f0) ((rd_T38 l2 x12_1).f1) t176 t177 false _ A8.out).mono ?_); rintro e w' ⟨rfl, ⟨nd, rfl⟩⟩; refine ⟨_, rfl, ?_⟩))
                go_ret
                exact ⟨by first | rfl | (simp [errW_none, errW_some] <;> rfl) | (simp [*, errW_none, errW_some] <;> rfl), by repeat (first | (with_reducible first | exact HB.out | apply below_alloc | apply pw_below_drewN | apply below_drew1 | refine below_set ?_ GE175.out) | exact HB.out)⟩
          · rw [if_neg c7] at H
            exact absurd H (by simp)
        · rw [if_neg c6] at H
          have c6b0 : decide (x12_1 < (l2.length : Int)) = false := decide_eq_false c6
          clear c6
          obtain rfl := Option.some.inj H
          go_wp2
          go_ret
          exact ⟨by first | rfl | (simp [errW_none, errW_some] <;> rfl) | (simp [*, errW_none, errW_some] <;> rfl), by repeat (first | (with_reducible first | exact HB.out | apply below_alloc | apply pw_below_drewN | apply below_drew1) | exact HB.out)⟩
  · replace c5 := Bool.eq_false_iff.mpr c5
    subst c5
    have H1 : (some false) = some r := by rw [if_neg (show ¬ (false = true) by decide)] at H; exact H
    clear H
    have H := H1
    clear H1
    obtain rfl := Option.some.inj H
    go_enter Try.func7, Try.ntmps7
    go_wp2_with (first | ((with_reducible refine gate_callee (f := 8) rfl ?_); refine goesL_ (some 17) rfl rfl Try.func8 (by kernel_rfl) rfl #[] rfl (by (try simp only [List.map_toArray, List.map_cons, List.map_nil]); first | done | rfl | (simp only [List.length_drop, List.length_take]; rfl)) ?_; (with_reducible refine (turnstilelaw05_awake.calls k  false _ A4.out).mono ?_); rintro e w' ⟨rfl, ⟨nd, rfl⟩⟩; refine ⟨_, rfl, ?_⟩))
    go_ret
    exact ⟨by first | rfl | (simp [errW_none, errW_some] <;> rfl) | (simp [*, errW_none, errW_some] <;> rfl), by repeat (first | (with_reducible first | exact HB.out | apply below_alloc | apply pw_below_drewN | apply below_drew1) | exact HB.out)⟩

end Go.Proofs.Ytocchdbmeokmhaa.PWin
