-- made by a program of this session (wip/tools/pp.py) over the kit's print
import Derived.Test.YtocchdbmeokmhaaPWinx0
namespace Go.Proofs.Ytocchdbmeokmhaa.PWin
open Go.RowKit Go.Proofs.YtocchdbmeokmhaaW.PrintWords Go.Proofs.YtocchdbmeokmhaaW.PrintLast Go.Proofs.YtocchdbmeokmhaaW.PrintMore
attribute [local go_sem] max2_int min2_int max_two min_two max_three min_three max_four min_four   -- for this text's walks alone
set_option linter.unusedVariables false
set_option linter.unusedSimpArgs false

/-! ### window_Left: function 12 -/
def window_Left.f (a0 : Int) (a1 : Int) (a2 : Int) (a3 : Int) (a4 : Int) : Option (Int) := if a1 = 0 then (some 0) else (if (IntKind.u64.wrap (Int.tdiv a4 a1)) > a2 then (some a0) else (if (IntKind.u64.wrap (Int.tdiv a4 a1)) = a2 then (if a3 < a0 then (some (IntKind.u64.wrap (a0 - a3))) else (some 0)) else (some 0)))
set_option maxHeartbeats 8000000 in
set_option maxRecDepth 100000 in
theorem window_Left.calls (a0 : Int) (a1 : Int) (a2 : Int) (a3 : Int) (a4 : Int) (r : Int) (w : World) (h : window_Left.f a0 a1 a2 a3 a4 = some r) :
    Calls Try.prog 12 #[.int .u64 a0, .int .u64 a1, .int .u64 a2, .int .u64 a3, .int .u64 a4] w fun e w' => e = .returned (.int .u64 r) ∧ Drawn0 w w' := by
  have H : (if a1 = 0 then (some 0) else (if (IntKind.u64.wrap (Int.tdiv a4 a1)) > a2 then (some a0) else (if (IntKind.u64.wrap (Int.tdiv a4 a1)) = a2 then (if a3 < a0 then (some (IntKind.u64.wrap (a0 - a3))) else (some 0)) else (some 0)))) = some r := h
  clear h
  by_cases c6 : a1 = 0
  · rw [if_pos c6] at H
    have c6b0 : (a1 == 0) = true := beq_iff_eq.mpr c6
    have c6b1 : (a1 != 0) = false := bne_eq_false_iff_eq.mpr c6
    clear c6
    obtain rfl := Option.some.inj H
    go_enter Try.func12, Try.ntmps12
    go_wp2
    go_ret
    exact ⟨by first | rfl | (simp; done) | (simp [*]; done) | (simp [Int.tdiv_eq_ediv_of_nonneg]; done), by repeat (first | exact Drawn0.refl _ | apply Drawn0.step)⟩
  · rw [if_neg c6] at H
    have c6b0 : (a1 == 0) = false := beq_eq_false_iff_ne.mpr c6
    have c6b1 : (a1 != 0) = true := bne_iff_ne.mpr c6
    by_cases c7 : (IntKind.u64.wrap (Int.tdiv a4 a1)) > a2
    · rw [if_pos c7] at H
      have c7b0 : decide (a2 < (IntKind.u64.wrap (Int.tdiv a4 a1))) = true := decide_eq_true c7
      clear c7
      obtain rfl := Option.some.inj H
      go_enter Try.func12, Try.ntmps12
      go_wp2
      go_ret
      exact ⟨by first | rfl | (simp; done) | (simp [*]; done) | (simp [Int.tdiv_eq_ediv_of_nonneg]; done), by repeat (first | exact Drawn0.refl _ | apply Drawn0.step)⟩
    · rw [if_neg c7] at H
      have c7b0 : decide (a2 < (IntKind.u64.wrap (Int.tdiv a4 a1))) = false := decide_eq_false c7
      clear c7
      by_cases c8 : (IntKind.u64.wrap (Int.tdiv a4 a1)) = a2
      · rw [if_pos c8] at H
        have c8b0 : ((IntKind.u64.wrap (Int.tdiv a4 a1)) == a2) = true := beq_iff_eq.mpr c8
        have c8b1 : ((IntKind.u64.wrap (Int.tdiv a4 a1)) != a2) = false := bne_eq_false_iff_eq.mpr c8
        clear c8
        by_cases c9 : a3 < a0
        · rw [if_pos c9] at H
          have c9b0 : decide (a3 < a0) = true := decide_eq_true c9
          clear c9
          obtain rfl := Option.some.inj H
          go_enter Try.func12, Try.ntmps12
          go_wp2
          go_ret
          exact ⟨by first | rfl | (simp; done) | (simp [*]; done) | (simp [Int.tdiv_eq_ediv_of_nonneg]; done), by repeat (first | exact Drawn0.refl _ | apply Drawn0.step)⟩
        · rw [if_neg c9] at H
          have c9b0 : decide (a3 < a0) = false := decide_eq_false c9
          clear c9
          obtain rfl := Option.some.inj H
          go_enter Try.func12, Try.ntmps12
          go_wp2
          go_ret
          exact ⟨by first | rfl | (simp; done) | (simp [*]; done) | (simp [Int.tdiv_eq_ediv_of_nonneg]; done), by repeat (first | exact Drawn0.refl _ | apply Drawn0.step)⟩
      · rw [if_neg c8] at H
        have c8b0 : ((IntKind.u64.wrap (Int.tdiv a4 a1)) == a2) = false := beq_eq_false_iff_ne.mpr c8
        have c8b1 : ((IntKind.u64.wrap (Int.tdiv a4 a1)) != a2) = true := bne_iff_ne.mpr c8
        obtain rfl := Option.some.inj H
        go_enter Try.func12, Try.ntmps12
        go_wp2
        go_ret
        exact ⟨by first | rfl | (simp; done) | (simp [*]; done) | (simp [Int.tdiv_eq_ediv_of_nonneg]; done), by repeat (first | exact Drawn0.refl _ | apply Drawn0.step)⟩

/-! ### window_Admit: function 13 -/
def window_Admit.j0 : Nat → Int → Int → Int → Int → Int → Bool → Option (Int × Int × Bool)
  | 0, _, _, _, _, _, _ => none
  | k + 1, x1, x2, x3, x4, x5, x27 => if x27 = true then (some (x2, x3, false)) else (if x1 = 0 then (none) else (if (IntKind.u64.wrap (Int.tdiv x4 x1)) > x2 then (some (IntKind.u64.wrap (Int.tdiv x4 x1), x5, true)) else (some (x2, IntKind.u64.wrap (x3 + x5), true))))
def window_Admit.f (k : Nat) (a0 : Int) (a1 : Int) (a2 : Int) (a3 : Int) (a4 : Int) (a5 : Int) : Option (Int × Int × Bool) := if a5 = 0 then (window_Admit.j0 k a1 a2 a3 a4 a5 true) else ((window_Left.f a0 a1 a2 a3 a4).bind fun t101 => (window_Admit.j0 k a1 a2 a3 a4 a5 (decide (a5 > t101))))
theorem window_Admit.mono_l : ∀ k, (∀ y0 y1 y2 y3 y4 y5, LeO (window_Admit.j0 k y0 y1 y2 y3 y4 y5) (window_Admit.j0 (k + 1) y0 y1 y2 y3 y4 y5))
  | 0 => fun _ _ _ _ _ _ r h => by simp [window_Admit.j0] at h
  | k + 1 => by
    have ih0 := window_Admit.mono_l k
    · intro y0 y1 y2 y3 y4 y5
      unfold window_Admit.j0
      repeat' first
      | (with_reducible exact ih0 _ _ _ _ _ _)
      | (with_reducible exact LeO.refl _)
      | (with_reducible exact LeO.none _)
      | (with_reducible refine LeO.ite ?_ ?_)
      | (with_reducible refine LeO.bind ?_ (fun _ => ?_))
      | exact ih0 _ _ _ _ _ _
      | exact LeO.none _
      | refine LeO.ite ?_ ?_
      | refine LeO.bind ?_ (fun _ => ?_)
theorem window_Admit.mono : ∀ a0 a1 a2 a3 a4 a5 k, LeO (window_Admit.f k a0 a1 a2 a3 a4 a5) (window_Admit.f (k + 1) a0 a1 a2 a3 a4 a5) := by
  intro a0 a1 a2 a3 a4 a5 k
  have ih0 := window_Admit.mono_l k
  unfold window_Admit.f
  repeat' first
      | (with_reducible exact ih0 _ _ _ _ _ _)
      | (with_reducible exact LeO.refl _)
      | (with_reducible exact LeO.none _)
      | (with_reducible refine LeO.ite ?_ ?_)
      | (with_reducible refine LeO.bind ?_ (fun _ => ?_))
      | exact ih0 _ _ _ _ _ _
      | exact LeO.none _
      | refine LeO.ite ?_ ?_
      | refine LeO.bind ?_ (fun _ => ?_)
set_option maxHeartbeats 8000000 in
set_option maxRecDepth 100000 in
theorem window_Admit.calls (k : Nat) (a0 : Int) (a1 : Int) (a2 : Int) (a3 : Int) (a4 : Int) (a5 : Int) (r1 : Int) (r2 : Int) (r3 : Bool) (w : World) (h : window_Admit.f k a0 a1 a2 a3 a4 a5 = some (r1, r2, r3)) :
    Calls Try.prog 13 #[.int .u64 a0, .int .u64 a1, .int .u64 a2, .int .u64 a3, .int .u64 a4, .int .u64 a5] w fun e w' => e = .returned (.tuple #[.int .u64 r1, .int .u64 r2, .bool r3]) ∧ Drawn0 w w' := by
  have H : (if a5 = 0 then (window_Admit.j0 k a1 a2 a3 a4 a5 true) else ((window_Left.f a0 a1 a2 a3 a4).bind fun t101 => (window_Admit.j0 k a1 a2 a3 a4 a5 (decide (a5 > t101))))) = some (r1, r2, r3) := h
  clear h
  have HC7 := Aside0.mk H
  clear H
  go_enter Try.func13, Try.ntmps13
  go_upto_region 1 with (fail)
  go_cut [27] (fun v27 wc => ∃ (kq : Nat) (x27_6 : Bool), v27 = .bool x27_6 ∧ Aside0 (window_Admit.j0 kq a1 a2 a3 a4 a5 x27_6 = some (r1, r2, r3)) ∧ Aside0 (kq ≤ k) ∧ Drawn0 w wc)
  case first =>
    have H := HC7.out
    clear HC7
    by_cases c8 : a5 = 0
    · rw [if_pos c8] at H
      have c8b0 : (a5 == 0) = true := beq_iff_eq.mpr c8
      have c8b1 : (a5 != 0) = false := bne_eq_false_iff_eq.mpr c8
      clear c8
      (first | rw [c8b0] | (simp only [i64_w, i32_w]; rw [c8b0]) | skip)
      have H' := Aside0.mk H
      clear H
      go_wp2
      go_meet
      case rel => exact ⟨_, (true), (by first | rfl | (simp; done) | (simp [*]; done)), H', ⟨by first | omega | exact Nat.le_refl _⟩, by repeat (first | exact Drawn0.refl _ | apply Drawn0.step)⟩
    · rw [if_neg c8] at H
      have c8b0 : (a5 == 0) = false := beq_eq_false_iff_ne.mpr c8
      have c8b1 : (a5 != 0) = true := bne_iff_ne.mpr c8
      (first | rw [c8b0] | (simp only [i64_w, i32_w]; rw [c8b0]) | skip)
      replace H := Option.bind_eq_some_iff.mp H
      obtain ⟨t101, A90, H⟩ := H
      replace H : (window_Admit.j0 k a1 a2 a3 a4 a5 (decide (a5 > t101))) = some (r1, r2, r3) := H
      have A9 := Aside0.mk A90
      clear A90
      have H' := Aside0.mk H
      clear H
      go_wp2_with (first | (go_at_call 12; (with_reducible refine (window_Left.calls a0 a1 a2 a3 a4 t101 _ A9.out).mono ?_); rintro e w' ⟨rfl, ⟨nd, rfl⟩⟩))
      go_meet
      case rel => exact ⟨_, (decide (a5 > t101)), (by first | rfl | (simp; done) | (simp [*]; done)), H', ⟨by first | omega | exact Nat.le_refl _⟩, by repeat (first | exact Drawn0.refl _ | apply Drawn0.step)⟩
  case rest =>
    clear HC7
    try clear c1
    try clear p2
    try clear c8
    try clear c8b0
    try clear c8b1
    obtain ⟨kq, x27_6, rfl, HA, HJ6, ⟨mc6, rfl⟩⟩ := hcut
    cases kq with
    | zero => exact absurd HA.out (by simp [window_Admit.j0])
    | succ kj6 =>
      have H := HA.out
      clear HA
      simp only [window_Admit.j0] at H
      by_cases c10 : x27_6 = true
      · subst c10
        have H1 : (some (a2, a3, false)) = some (r1, r2, r3) := by rw [if_pos rfl] at H; exact H
        clear H
        have H := H1
        clear H1
        simp only [Option.some.injEq, Prod.mk.injEq] at H
        obtain ⟨rfl, rfl, rfl⟩ := H
        go_wp2
        go_ret3
        exact ⟨by first | rfl | (simp; done) | (simp [*]; done) | (simp [Int.tdiv_eq_ediv_of_nonneg]; done), by repeat (first | exact Drawn0.refl _ | apply Drawn0.step)⟩
      · replace c10 := Bool.eq_false_iff.mpr c10
        subst c10
        have H1 : (if a1 = 0 then (none) else (if (IntKind.u64.wrap (Int.tdiv a4 a1)) > a2 then (some (IntKind.u64.wrap (Int.tdiv a4 a1), a5, true)) else (some (a2, IntKind.u64.wrap (a3 + a5), true)))) = some (r1, r2, r3) := by rw [if_neg (show ¬ (false = true) by decide)] at H; exact H
        clear H
        have H := H1
        clear H1
        by_cases c11 : a1 = 0
        · rw [if_pos c11] at H
          exact absurd H (by simp)
        · rw [if_neg c11] at H
          have c11b0 : (a1 == 0) = false := beq_eq_false_iff_ne.mpr c11
          have c11b1 : (a1 != 0) = true := bne_iff_ne.mpr c11
          by_cases c12 : (IntKind.u64.wrap (Int.tdiv a4 a1)) > a2
          · rw [if_pos c12] at H
            have c12b0 : decide (a2 < (IntKind.u64.wrap (Int.tdiv a4 a1))) = true := decide_eq_true c12
            clear c12
            simp only [Option.some.injEq, Prod.mk.injEq] at H
            obtain ⟨rfl, rfl, rfl⟩ := H
            go_wp2
            go_ret3
            exact ⟨by first | rfl | (simp; done) | (simp [*]; done) | (simp [Int.tdiv_eq_ediv_of_nonneg]; done), by repeat (first | exact Drawn0.refl _ | apply Drawn0.step)⟩
          · rw [if_neg c12] at H
            have c12b0 : decide (a2 < (IntKind.u64.wrap (Int.tdiv a4 a1))) = false := decide_eq_false c12
            clear c12
            simp only [Option.some.injEq, Prod.mk.injEq] at H
            obtain ⟨rfl, rfl, rfl⟩ := H
            go_wp2
            go_ret3
            exact ⟨by first | rfl | (simp; done) | (simp [*]; done) | (simp [Int.tdiv_eq_ediv_of_nonneg]; done), by repeat (first | exact Drawn0.refl _ | apply Drawn0.step)⟩

/-! ### bits_Mul64: function 23 -/
def bits_Mul64.f (a0 : Int) (a1 : Int) : Option (Int × Int) := some (IntKind.u64.wrap ((IntKind.u64.wrap ((IntKind.u64.wrap ((a0 / 4294967296) * (a1 / 4294967296))) + ((IntKind.u64.wrap ((IntKind.u64.wrap ((a0 / 4294967296) * (Go.bits .and .u64 a1 4294967295))) + ((IntKind.u64.wrap ((Go.bits .and .u64 a0 4294967295) * (Go.bits .and .u64 a1 4294967295))) / 4294967296))) / 4294967296))) + ((IntKind.u64.wrap ((Go.bits .and .u64 (IntKind.u64.wrap ((IntKind.u64.wrap ((a0 / 4294967296) * (Go.bits .and .u64 a1 4294967295))) + ((IntKind.u64.wrap ((Go.bits .and .u64 a0 4294967295) * (Go.bits .and .u64 a1 4294967295))) / 4294967296))) 4294967295) + (IntKind.u64.wrap ((Go.bits .and .u64 a0 4294967295) * (a1 / 4294967296))))) / 4294967296)), IntKind.u64.wrap (a0 * a1))
set_option maxHeartbeats 8000000 in
set_option maxRecDepth 100000 in
theorem bits_Mul64.calls (a0 : Int) (a1 : Int) (r1 : Int) (r2 : Int) (w : World) (h : bits_Mul64.f a0 a1 = some (r1, r2)) :
    Calls Try.prog 23 #[.int .u64 a0, .int .u64 a1] w fun e w' => e = .returned (.tuple #[.int .u64 r1, .int .u64 r2]) ∧ Drawn0 w w' := by
  have H : (some (IntKind.u64.wrap ((IntKind.u64.wrap ((IntKind.u64.wrap ((a0 / 4294967296) * (a1 / 4294967296))) + ((IntKind.u64.wrap ((IntKind.u64.wrap ((a0 / 4294967296) * (Go.bits .and .u64 a1 4294967295))) + ((IntKind.u64.wrap ((Go.bits .and .u64 a0 4294967295) * (Go.bits .and .u64 a1 4294967295))) / 4294967296))) / 4294967296))) + ((IntKind.u64.wrap ((Go.bits .and .u64 (IntKind.u64.wrap ((IntKind.u64.wrap ((a0 / 4294967296) * (Go.bits .and .u64 a1 4294967295))) + ((IntKind.u64.wrap ((Go.bits .and .u64 a0 4294967295) * (Go.bits .and .u64 a1 4294967295))) / 4294967296))) 4294967295) + (IntKind.u64.wrap ((Go.bits .and .u64 a0 4294967295) * (a1 / 4294967296))))) / 4294967296)), IntKind.u64.wrap (a0 * a1))) = some (r1, r2) := h
  clear h
  simp only [Option.some.injEq, Prod.mk.injEq] at H
  obtain ⟨rfl, rfl⟩ := H
  go_enter Try.func23, Try.ntmps23
  go_wp2
  go_ret2
  exact ⟨by first | rfl | (simp; done) | (simp [*]; done) | (simp [Int.tdiv_eq_ediv_of_nonneg]; done), by repeat (first | exact Drawn0.refl _ | apply Drawn0.step)⟩

/-! ### window_start: function 21 -/
def window_start.f (a0 : Int) (a1 : Int) : Option (Int × Bool) := (bits_Mul64.f a0 a1).bind fun bt102 => (some (bt102.2, (bt102.1 == 0)))
set_option maxHeartbeats 8000000 in
set_option maxRecDepth 100000 in
theorem window_start.calls (a0 : Int) (a1 : Int) (r1 : Int) (r2 : Bool) (w : World) (h : window_start.f a0 a1 = some (r1, r2)) :
    Calls Try.prog 21 #[.int .u64 a0, .int .u64 a1] w fun e w' => e = .returned (.tuple #[.int .u64 r1, .bool r2]) ∧ Drawn0 w w' := by
  have H : ((bits_Mul64.f a0 a1).bind fun bt102 => (some (bt102.2, (bt102.1 == 0)))) = some (r1, r2) := h
  clear h
  replace H := Option.bind_eq_some_iff.mp H
  obtain ⟨⟨t102, t103⟩, A30, H⟩ := H
  replace H : (some (t103, (t102 == 0))) = some (r1, r2) := H
  have A3 := Aside0.mk A30
  clear A30
  simp only [Option.some.injEq, Prod.mk.injEq] at H
  obtain ⟨rfl, rfl⟩ := H
  go_enter Try.func21, Try.ntmps21
  go_wp2_with (first | ((with_reducible refine gate_callee (f := 23) rfl ?_); refine goesL_ (some 11) rfl rfl Try.func23 (by kernel_rfl) rfl #[.int .u64 a0, .int .u64 a1] rfl (by (try simp only [List.map_toArray, List.map_cons, List.map_nil]); first | done | rfl | (simp only [List.length_drop, List.length_take]; rfl)) ?_; (with_reducible refine (bits_Mul64.calls a0 a1 t102 t103 _ A3.out).mono ?_); rintro e w' ⟨rfl, ⟨nd, rfl⟩⟩; refine ⟨_, rfl, ?_⟩))
  go_ret2
  exact ⟨by first | rfl | (simp; done) | (simp [*]; done) | (simp [Int.tdiv_eq_ediv_of_nonneg]; done), by repeat (first | exact Drawn0.refl _ | apply Drawn0.step)⟩


/-! ### window_Retry: function 10 -/
def window_Retry.step (k : Nat) (a0 : Int) (a1 : Int) (a2 : Int) (a3 : Int) (a4 : Int) (a5 : Int) (x : Int) (z : Option Int) : Option Int := (window_start.f a1 x).bind fun b => if b.2 = false then z else (if x < a2 then z else (if b.1 < a4 then z else ((window_Admit.f k a0 a1 a2 a3 b.1 a5).bind fun c => if c.2.2 = true then some b.1 else z)))
def window_Retry.f (k : Nat) (a0 : Int) (a1 : Int) (a2 : Int) (a3 : Int) (a4 : Int) (a5 : Int) : Option Int := (window_Admit.f k a0 a1 a2 a3 a4 a5).bind fun b => if b.2.2 = true then some a4 else (if a1 = 0 then some 18446744073709551615 else (window_Retry.step k a0 a1 a2 a3 a4 a5 a2 (window_Retry.step k a0 a1 a2 a3 a4 a5 (IntKind.u64.wrap (a2 + 1)) (some 18446744073709551615))))
theorem window_Retry.step_mono (k : Nat) (a0 : Int) (a1 : Int) (a2 : Int) (a3 : Int) (a4 : Int) (a5 : Int) (x : Int) (z z' : Option Int) (hz : LeO z z') : LeO (window_Retry.step k a0 a1 a2 a3 a4 a5 x z) (window_Retry.step (k + 1) a0 a1 a2 a3 a4 a5 x z') := by
  unfold window_Retry.step
  refine LeO.bind (LeO.refl _) (fun b => ?_)
  refine LeO.ite hz (LeO.ite hz (LeO.ite hz (LeO.bind (window_Admit.mono _ _ _ _ _ _ _) (fun c => ?_))))
  exact LeO.ite (LeO.refl _) hz
theorem window_Retry.mono : ∀ a0 a1 a2 a3 a4 a5 k, LeO (window_Retry.f k a0 a1 a2 a3 a4 a5) (window_Retry.f (k + 1) a0 a1 a2 a3 a4 a5) := by
  intro a0 a1 a2 a3 a4 a5 k
  unfold window_Retry.f
  refine LeO.bind (window_Admit.mono _ _ _ _ _ _ _) (fun b => ?_)
  refine LeO.ite (LeO.refl _) (LeO.ite (LeO.refl _) ?_)
  exact window_Retry.step_mono _ _ _ _ _ _ _ _ _ _ (window_Retry.step_mono _ _ _ _ _ _ _ _ _ _ (LeO.refl _))
/-- what is left from the j-th of the two windows on -/
def window_Retry.l (k : Nat) (a0 : Int) (a1 : Int) (a2 : Int) (a3 : Int) (a4 : Int) (a5 : Int) : Nat → Option Int
  | 0 => window_Retry.step k a0 a1 a2 a3 a4 a5 a2 (window_Retry.step k a0 a1 a2 a3 a4 a5 (IntKind.u64.wrap (a2 + 1)) (some 18446744073709551615))
  | 1 => window_Retry.step k a0 a1 a2 a3 a4 a5 (IntKind.u64.wrap (a2 + 1)) (some 18446744073709551615)
  | _ => some 18446744073709551615
theorem window_Retry.l0 (k : Nat) (a0 : Int) (a1 : Int) (a2 : Int) (a3 : Int) (a4 : Int) (a5 : Int) : window_Retry.l k a0 a1 a2 a3 a4 a5 0 = window_Retry.step k a0 a1 a2 a3 a4 a5 a2 (window_Retry.l k a0 a1 a2 a3 a4 a5 1) := rfl
theorem window_Retry.l1 (k : Nat) (a0 : Int) (a1 : Int) (a2 : Int) (a3 : Int) (a4 : Int) (a5 : Int) : window_Retry.l k a0 a1 a2 a3 a4 a5 1 = window_Retry.step k a0 a1 a2 a3 a4 a5 (IntKind.u64.wrap (a2 + 1)) (window_Retry.l k a0 a1 a2 a3 a4 a5 2) := rfl
theorem window_Retry.wlo (x : Int) : 0 ≤ IntKind.u64.wrap x := by simp only [IntKind.wrap_u64]; omega

set_option maxHeartbeats 8000000 in
set_option maxRecDepth 100000 in
theorem window_Retry.calls (k : Nat) (a0 : Int) (a1 : Int) (a2 : Int) (a3 : Int) (a4 : Int) (a5 : Int) (r : Int) (w : World) (h : window_Retry.f k a0 a1 a2 a3 a4 a5 = some r) :
    Calls Try.prog 10 #[.int .u64 a0, .int .u64 a1, .int .u64 a2, .int .u64 a3, .int .u64 a4, .int .u64 a5] w fun e w' => e = .returned (.int .u64 r) ∧ Drawn0 w w' := by
  have H : ((window_Admit.f k a0 a1 a2 a3 a4 a5).bind fun b => if b.2.2 = true then some a4 else (if a1 = 0 then some 18446744073709551615 else (window_Retry.l k a0 a1 a2 a3 a4 a5 0))) = some r := h
  clear h
  replace H := Option.bind_eq_some_iff.mp H
  obtain ⟨⟨i0, c0, ok0⟩, A00, H⟩ := H
  have A0 := Aside0.mk A00
  clear A00
  cases ok0 with
  | true =>
    obtain rfl : a4 = r := by simpa using H
    clear H
    go_enter Try.func10, Try.ntmps10
    go_wp2_with (first | (go_at_call 13; (with_reducible refine (window_Admit.calls k a0 a1 a2 a3 a4 a5 i0 c0 true _ A0.out).mono ?_); rintro e w' ⟨rfl, ⟨nd, rfl⟩⟩))
    go_ret
    exact ⟨rfl, by repeat (first | exact Drawn0.refl _ | apply Drawn0.step)⟩
  | false =>
    replace H : (if a1 = 0 then some 18446744073709551615 else (window_Retry.l k a0 a1 a2 a3 a4 a5 0)) = some r := by simpa using H
    by_cases c1 : a1 = 0
    · rw [if_pos c1] at H
      have c1b0 : (a1 == 0) = true := beq_iff_eq.mpr c1
      clear c1
      obtain rfl := Option.some.inj H
      go_enter Try.func10, Try.ntmps10
      go_wp2_with (first | (go_at_call 13; (with_reducible refine (window_Admit.calls k a0 a1 a2 a3 a4 a5 i0 c0 false _ A0.out).mono ?_); rintro e w' ⟨rfl, ⟨nd, rfl⟩⟩))
      go_ret
      exact ⟨rfl, by repeat (first | exact Drawn0.refl _ | apply Drawn0.step)⟩
    · rw [if_neg c1] at H
      have c1b0 : (a1 == 0) = false := beq_eq_false_iff_ne.mpr c1
      clear c1
      have HJ := Aside0.mk H
      clear H
      have i0 : ∀ (x0 x1 : Value) w, (Instr.index 40 (.agg #[x0, x1]) (.int .i64 0)).run Try.prog w = .ok x0 w := fun _ _ _ => by kernel_rfl
      have i1 : ∀ (x0 x1 : Value) w, (Instr.index 40 (.agg #[x0, x1]) (.int .i64 1)).run Try.prog w = .ok x1 w := fun _ _ _ => by kernel_rfl
      go_enter Try.func10, Try.ntmps10
      go_wp2_with (first | (go_at_call 13; (with_reducible refine (window_Admit.calls k a0 a1 a2 a3 a4 a5 _ c0 false _ A0.out).mono ?_); rintro e w' ⟨rfl, ⟨nd, rfl⟩⟩))
      clear A0
      go_loopw [42] (fun v wr => ∃ j : Nat, j ≤ 2 ∧ v = .int .i64 j ∧ Aside0 (window_Retry.l k a0 a1 a2 a3 a4 a5 j = some r) ∧ Drawn0 w wr) (fun v _ => 2 - (intOf v).toNat)
      case atStart => exact ⟨0, by omega, rfl, HJ, by repeat (first | exact Drawn0.refl _ | apply Drawn0.step)⟩
      case round =>
        clear HJ
        obtain ⟨j, hj, rfl, HJ, ⟨mc, rfl⟩⟩ := hrel
        have HH : ∃ x, (j = 0 → x = a2) ∧ (j = 1 → x = IntKind.u64.wrap (a2 + 1)) ∧ (j < 2 → window_Retry.l k a0 a1 a2 a3 a4 a5 j = window_Retry.step k a0 a1 a2 a3 a4 a5 x (window_Retry.l k a0 a1 a2 a3 a4 a5 (j + 1))) := by
          rcases j with _ | _ | _ | j
          · exact ⟨a2, fun _ => rfl, fun h => by omega, fun _ => rfl⟩
          · exact ⟨_, fun h => by omega, fun _ => rfl, fun _ => rfl⟩
          · exact ⟨0, fun h => by omega, fun h => by omega, fun h => by omega⟩
          · omega
        by_cases hlt : j < 2
        · obtain ⟨x, hx0, hx1, hx⟩ := HH
          have H := HJ.out
          rw [hx hlt] at H
          clear HJ hx
          unfold window_Retry.step at H
          replace H := Option.bind_eq_some_iff.mp H
          obtain ⟨⟨t, ok⟩, A10, H⟩ := H
          have A1 := Aside0.mk A10
          clear A10
          have jj : j = 0 ∨ j = 1 := by omega
          have hfin : ∀ W, Drawn0 w W → Drawn0 w W := fun _ h => h
          cases ok with
          | false =>
            replace H : window_Retry.l k a0 a1 a2 a3 a4 a5 (j + 1) = some r := by simpa using H
            have HJ' := Aside0.mk H
            clear H
            rcases jj with rfl | rfl
            · obtain rfl := hx0 rfl
              clear hx0 hx1
              go_wp2_with (first | (go_at_call 21; (with_reducible refine (window_start.calls _ _ t false _ A1.out).mono ?_); rintro e w' ⟨rfl, ⟨nd, rfl⟩⟩))
              exact ⟨⟨1, by omega, rfl, HJ', by repeat (first | exact Drawn0.refl _ | apply Drawn0.step)⟩, by simp [intOf]⟩
            · obtain rfl := hx1 rfl
              clear hx0 hx1
              go_wp2_with (first | (go_at_call 21; (with_reducible refine (window_start.calls _ _ t false _ A1.out).mono ?_); rintro e w' ⟨rfl, ⟨nd, rfl⟩⟩))
              exact ⟨⟨2, by omega, rfl, HJ', by repeat (first | exact Drawn0.refl _ | apply Drawn0.step)⟩, by simp [intOf]⟩
          | true =>
            replace H : (if x < a2 then window_Retry.l k a0 a1 a2 a3 a4 a5 (j + 1) else (if t < a4 then window_Retry.l k a0 a1 a2 a3 a4 a5 (j + 1) else ((window_Admit.f k a0 a1 a2 a3 t a5).bind fun c => if c.2.2 = true then some t else window_Retry.l k a0 a1 a2 a3 a4 a5 (j + 1)))) = some r := by simpa using H
            by_cases c2 : x < a2
            · rw [if_pos c2] at H
              have c2b0 : decide (x < a2) = true := decide_eq_true c2
              have HJ' := Aside0.mk H
              clear H
              rcases jj with rfl | rfl
              · obtain rfl := hx0 rfl
                omega
              · have hxx := Aside0.mk (hx1 rfl)
                clear hx0 hx1 c2
                rw [hxx.out] at c2b0 A1
                go_wp2_with (first | (go_at_call 21; (with_reducible refine (window_start.calls _ _ t true _ A1.out).mono ?_); rintro e w' ⟨rfl, ⟨nd, rfl⟩⟩))
                exact ⟨⟨2, by omega, rfl, HJ', by repeat (first | exact Drawn0.refl _ | apply Drawn0.step)⟩, by simp [intOf]⟩
            · rw [if_neg c2] at H
              have c2b0 : decide (x < a2) = false := decide_eq_false c2
              by_cases c3 : t < a4
              · rw [if_pos c3] at H
                have c3b0 : decide (t < a4) = true := decide_eq_true c3
                have HJ' := Aside0.mk H
                clear H c3 c2
                rcases jj with rfl | rfl
                · obtain rfl := hx0 rfl
                  clear hx0 hx1
                  go_wp2_with (first | (go_at_call 21; (with_reducible refine (window_start.calls _ _ t true _ A1.out).mono ?_); rintro e w' ⟨rfl, ⟨nd, rfl⟩⟩))
                  exact ⟨⟨1, by omega, rfl, HJ', by repeat (first | exact Drawn0.refl _ | apply Drawn0.step)⟩, by simp [intOf]⟩
                · obtain rfl := hx1 rfl
                  clear hx0 hx1
                  go_wp2_with (first | (go_at_call 21; (with_reducible refine (window_start.calls _ _ t true _ A1.out).mono ?_); rintro e w' ⟨rfl, ⟨nd, rfl⟩⟩))
                  exact ⟨⟨2, by omega, rfl, HJ', by repeat (first | exact Drawn0.refl _ | apply Drawn0.step)⟩, by simp [intOf]⟩
              · rw [if_neg c3] at H
                have c3b0 : decide (t < a4) = false := decide_eq_false c3
                clear c2 c3
                replace H := Option.bind_eq_some_iff.mp H
                obtain ⟨⟨ii, cc, ok⟩, A20, H⟩ := H
                have A2 := Aside0.mk A20
                clear A20
                cases ok with
                | true =>
                  obtain rfl : t = r := by simpa using H
                  clear H
                  rcases jj with rfl | rfl
                  · obtain rfl := hx0 rfl
                    clear hx0 hx1
                    go_wp2_with (first | (go_at_call 21; (with_reducible refine (window_start.calls _ _ t true _ A1.out).mono ?_); rintro e w' ⟨rfl, ⟨nd, rfl⟩⟩) | (go_at_call 13; (with_reducible refine (window_Admit.calls k a0 a1 x a3 t a5 ii cc true _ A2.out).mono ?_); rintro e w' ⟨rfl, ⟨nd, rfl⟩⟩))
                    go_ret
                    exact ⟨rfl, by repeat (first | exact Drawn0.refl _ | apply Drawn0.step)⟩
                  · obtain rfl := hx1 rfl
                    clear hx0 hx1
                    go_wp2_with (first | (go_at_call 21; (with_reducible refine (window_start.calls _ _ t true _ A1.out).mono ?_); rintro e w' ⟨rfl, ⟨nd, rfl⟩⟩) | (go_at_call 13; (with_reducible refine (window_Admit.calls k a0 a1 a2 a3 t a5 ii cc true _ A2.out).mono ?_); rintro e w' ⟨rfl, ⟨nd, rfl⟩⟩))
                    go_ret
                    exact ⟨rfl, by repeat (first | exact Drawn0.refl _ | apply Drawn0.step)⟩
                | false =>
                  replace H : window_Retry.l k a0 a1 a2 a3 a4 a5 (j + 1) = some r := by simpa using H
                  have HJ' := Aside0.mk H
                  clear H
                  rcases jj with rfl | rfl
                  · obtain rfl := hx0 rfl
                    clear hx0 hx1
                    go_wp2_with (first | (go_at_call 21; (with_reducible refine (window_start.calls _ _ t true _ A1.out).mono ?_); rintro e w' ⟨rfl, ⟨nd, rfl⟩⟩) | (go_at_call 13; (with_reducible refine (window_Admit.calls k a0 a1 x a3 t a5 ii cc false _ A2.out).mono ?_); rintro e w' ⟨rfl, ⟨nd, rfl⟩⟩))
                    exact ⟨⟨1, by omega, rfl, HJ', by repeat (first | exact Drawn0.refl _ | apply Drawn0.step)⟩, by simp [intOf]⟩
                  · obtain rfl := hx1 rfl
                    clear hx0 hx1
                    go_wp2_with (first | (go_at_call 21; (with_reducible refine (window_start.calls _ _ t true _ A1.out).mono ?_); rintro e w' ⟨rfl, ⟨nd, rfl⟩⟩) | (go_at_call 13; (with_reducible refine (window_Admit.calls k a0 a1 a2 a3 t a5 ii cc false _ A2.out).mono ?_); rintro e w' ⟨rfl, ⟨nd, rfl⟩⟩))
                    exact ⟨⟨2, by omega, rfl, HJ', by repeat (first | exact Drawn0.refl _ | apply Drawn0.step)⟩, by simp [intOf]⟩
        · clear HH
          obtain rfl : j = 2 := by omega
          have H := HJ.out
          clear HJ
          obtain rfl : 18446744073709551615 = r := by simpa [window_Retry.l] using H
          clear H
          go_wp2
          go_ret
          exact ⟨rfl, by repeat (first | exact Drawn0.refl _ | apply Drawn0.step)⟩


/-! ### window_Index: function 14 -/
def window_Index.f (a0 : Int) (a1 : Int) : Option (Int) := if a0 = 0 then (some 0) else (some (IntKind.u64.wrap (Int.tdiv a1 a0)))
set_option maxHeartbeats 8000000 in
set_option maxRecDepth 100000 in
theorem window_Index.calls (a0 : Int) (a1 : Int) (r : Int) (w : World) (h : window_Index.f a0 a1 = some r) :
    Calls Try.prog 14 #[.int .u64 a0, .int .u64 a1] w fun e w' => e = .returned (.int .u64 r) ∧ Drawn0 w w' := by
  have H : (if a0 = 0 then (some 0) else (some (IntKind.u64.wrap (Int.tdiv a1 a0)))) = some r := h
  clear h
  by_cases c3 : a0 = 0
  · rw [if_pos c3] at H
    have c3b0 : (a0 == 0) = true := beq_iff_eq.mpr c3
    have c3b1 : (a0 != 0) = false := bne_eq_false_iff_eq.mpr c3
    clear c3
    obtain rfl := Option.some.inj H
    go_enter Try.func14, Try.ntmps14
    go_wp2
    go_ret
    exact ⟨by first | rfl | (simp; done) | (simp [*]; done) | (simp [Int.tdiv_eq_ediv_of_nonneg]; done), by repeat (first | exact Drawn0.refl _ | apply Drawn0.step)⟩
  · rw [if_neg c3] at H
    have c3b0 : (a0 == 0) = false := beq_eq_false_iff_ne.mpr c3
    have c3b1 : (a0 != 0) = true := bne_iff_ne.mpr c3
    obtain rfl := Option.some.inj H
    go_enter Try.func14, Try.ntmps14
    go_wp2
    go_ret
    exact ⟨by first | rfl | (simp; done) | (simp [*]; done) | (simp [Int.tdiv_eq_ediv_of_nonneg]; done), by repeat (first | exact Drawn0.refl _ | apply Drawn0.step)⟩

/-! ### window_Start: function 15 -/
def window_Start.f (a0 : Int) (a1 : Int) : Option (Int) := (window_start.f a0 a1).bind fun bt104 => (if bt104.2 = true then (some bt104.1) else (some 18446744073709551615))
set_option maxHeartbeats 8000000 in
set_option maxRecDepth 100000 in
theorem window_Start.calls (a0 : Int) (a1 : Int) (r : Int) (w : World) (h : window_Start.f a0 a1 = some r) :
    Calls Try.prog 15 #[.int .u64 a0, .int .u64 a1] w fun e w' => e = .returned (.int .u64 r) ∧ Drawn0 w w' := by
  have H : ((window_start.f a0 a1).bind fun bt104 => (if bt104.2 = true then (some bt104.1) else (some 18446744073709551615))) = some r := h
  clear h
  replace H := Option.bind_eq_some_iff.mp H
  obtain ⟨⟨t104, t105⟩, A30, H⟩ := H
  replace H : (if t105 = true then (some t104) else (some 18446744073709551615)) = some r := H
  have A3 := Aside0.mk A30
  clear A30
  by_cases c4 : t105 = true
  · subst c4
    have H1 : (some t104) = some r := by rw [if_pos rfl] at H; exact H
    clear H
    have H := H1
    clear H1
    obtain rfl := Option.some.inj H
    go_enter Try.func15, Try.ntmps15
    go_wp2_with (first | ((with_reducible refine gate_callee (f := 21) rfl ?_); refine goesL_ (some 10) rfl rfl Try.func21 (by kernel_rfl) rfl #[.int .u64 a0, .int .u64 a1] rfl (by (try simp only [List.map_toArray, List.map_cons, List.map_nil]); first | done | rfl | (simp only [List.length_drop, List.length_take]; rfl)) ?_; (with_reducible refine (window_start.calls a0 a1 t104 true _ A3.out).mono ?_); rintro e w' ⟨rfl, ⟨nd, rfl⟩⟩; refine ⟨_, rfl, ?_⟩))
    go_ret
    exact ⟨by first | rfl | (simp; done) | (simp [*]; done) | (simp [Int.tdiv_eq_ediv_of_nonneg]; done), by repeat (first | exact Drawn0.refl _ | apply Drawn0.step)⟩
  · replace c4 := Bool.eq_false_iff.mpr c4
    subst c4
    have H1 : (some 18446744073709551615) = some r := by rw [if_neg (show ¬ (false = true) by decide)] at H; exact H
    clear H
    have H := H1
    clear H1
    obtain rfl := Option.some.inj H
    go_enter Try.func15, Try.ntmps15
    go_wp2_with (first | ((with_reducible refine gate_callee (f := 21) rfl ?_); refine goesL_ (some 10) rfl rfl Try.func21 (by kernel_rfl) rfl #[.int .u64 a0, .int .u64 a1] rfl (by (try simp only [List.map_toArray, List.map_cons, List.map_nil]); first | done | rfl | (simp only [List.length_drop, List.length_take]; rfl)) ?_; (with_reducible refine (window_start.calls a0 a1 t104 false _ A3.out).mono ?_); rintro e w' ⟨rfl, ⟨nd, rfl⟩⟩; refine ⟨_, rfl, ?_⟩))
    go_ret
    exact ⟨by first | rfl | (simp; done) | (simp [*]; done) | (simp [Int.tdiv_eq_ediv_of_nonneg]; done), by repeat (first | exact Drawn0.refl _ | apply Drawn0.step)⟩

/-! ### turnstilelaw05_awake: function 8 -/
def turnstilelaw05_awake.f (k : Nat)  : Option (Bool) := (window_Admit.f k 5 10 3 4 40 5).bind fun bt106 => ((window_Retry.f k 5 10 3 4 12 1).bind fun t109 => (if bt106.1 = 4 then (if bt106.2.1 = 5 then (if bt106.2.2 = true then (if t109 = 30 then ((window_Index.f 10 39).bind fun t110 => (if t110 = 3 then ((window_Start.f 10 3).bind fun t111 => (if t111 = 30 then ((window_Left.f 5 10 3 4 39).bind fun t112 => (some (t112 == 1))) else (some false))) else (some false))) else (some false)) else (some false)) else (some false)) else (some false)))
theorem turnstilelaw05_awake.mono : ∀ k, LeO (turnstilelaw05_awake.f k ) (turnstilelaw05_awake.f (k + 1) ) := by
  intro  k
  unfold turnstilelaw05_awake.f
  repeat' first
      | (with_reducible exact window_Admit.mono _ _ _ _ _ _ _)
      | (with_reducible exact window_Retry.mono _ _ _ _ _ _ _)
      | (with_reducible exact LeO.refl _)
      | (with_reducible exact LeO.none _)
      | (with_reducible refine LeO.ite ?_ ?_)
      | (with_reducible refine LeO.bind ?_ (fun _ => ?_))
      | exact window_Admit.mono _ _ _ _ _ _ _
      | exact window_Retry.mono _ _ _ _ _ _ _
      | exact LeO.none _
      | refine LeO.ite ?_ ?_
      | refine LeO.bind ?_ (fun _ => ?_)
set_option maxHeartbeats 8000000 in
set_option maxRecDepth 100000 in
theorem turnstilelaw05_awake.calls (k : Nat)  (r : Bool) (w : World) (h : turnstilelaw05_awake.f k  = some r) :
    Calls Try.prog 8 #[] w fun e w' => e = .returned (.bool r) ∧ Drawn0 w w' := by
  have H : ((window_Admit.f k 5 10 3 4 40 5).bind fun bt106 => ((window_Retry.f k 5 10 3 4 12 1).bind fun t109 => (if bt106.1 = 4 then (if bt106.2.1 = 5 then (if bt106.2.2 = true then (if t109 = 30 then ((window_Index.f 10 39).bind fun t110 => (if t110 = 3 then ((window_Start.f 10 3).bind fun t111 => (if t111 = 30 then ((window_Left.f 5 10 3 4 39).bind fun t112 => (some (t112 == 1))) else (some false))) else (some false))) else (some false)) else (some false)) else (some false)) else (some false)))) = some r := h
  clear h
  replace H := Option.bind_eq_some_iff.mp H
  obtain ⟨⟨t106, t107, t108⟩, A10, H⟩ := H
  replace H : ((window_Retry.f k 5 10 3 4 12 1).bind fun t109 => (if t106 = 4 then (if t107 = 5 then (if t108 = true then (if t109 = 30 then ((window_Index.f 10 39).bind fun t110 => (if t110 = 3 then ((window_Start.f 10 3).bind fun t111 => (if t111 = 30 then ((window_Left.f 5 10 3 4 39).bind fun t112 => (some (t112 == 1))) else (some false))) else (some false))) else (some false)) else (some false)) else (some false)) else (some false))) = some r := H
  have A1 := Aside0.mk A10
  clear A10
  replace H := Option.bind_eq_some_iff.mp H
  obtain ⟨t109, A20, H⟩ := H
  replace H : (if t106 = 4 then (if t107 = 5 then (if t108 = true then (if t109 = 30 then ((window_Index.f 10 39).bind fun t110 => (if t110 = 3 then ((window_Start.f 10 3).bind fun t111 => (if t111 = 30 then ((window_Left.f 5 10 3 4 39).bind fun t112 => (some (t112 == 1))) else (some false))) else (some false))) else (some false)) else (some false)) else (some false)) else (some false)) = some r := H
  have A2 := Aside0.mk A20
  clear A20
  by_cases c3 : t106 = 4
  · rw [if_pos c3] at H
    have c3b0 : (t106 == 4) = true := beq_iff_eq.mpr c3
    have c3b1 : (t106 != 4) = false := bne_eq_false_iff_eq.mpr c3
    clear c3
    by_cases c4 : t107 = 5
    · rw [if_pos c4] at H
      have c4b0 : (t107 == 5) = true := beq_iff_eq.mpr c4
      have c4b1 : (t107 != 5) = false := bne_eq_false_iff_eq.mpr c4
      clear c4
      by_cases c5 : t108 = true
      · subst c5
        have H1 : (if t109 = 30 then ((window_Index.f 10 39).bind fun t110 => (if t110 = 3 then ((window_Start.f 10 3).bind fun t111 => (if t111 = 30 then ((window_Left.f 5 10 3 4 39).bind fun t112 => (some (t112 == 1))) else (some false))) else (some false))) else (some false)) = some r := by rw [if_pos rfl] at H; exact H
        clear H
        have H := H1
        clear H1
        by_cases c6 : t109 = 30
        · rw [if_pos c6] at H
          have c6b0 : (t109 == 30) = true := beq_iff_eq.mpr c6
          have c6b1 : (t109 != 30) = false := bne_eq_false_iff_eq.mpr c6
          clear c6
          replace H := Option.bind_eq_some_iff.mp H
          obtain ⟨t110, A70, H⟩ := H
          replace H : (if t110 = 3 then ((window_Start.f 10 3).bind fun t111 => (if t111 = 30 then ((window_Left.f 5 10 3 4 39).bind fun t112 => (some (t112 == 1))) else (some false))) else (some false)) = some r := H
          have A7 := Aside0.mk A70
          clear A70
          by_cases c8 : t110 = 3
          · rw [if_pos c8] at H
            have c8b0 : (t110 == 3) = true := beq_iff_eq.mpr c8
            have c8b1 : (t110 != 3) = false := bne_eq_false_iff_eq.mpr c8
            clear c8
            replace H := Option.bind_eq_some_iff.mp H
            obtain ⟨t111, A90, H⟩ := H
            replace H : (if t111 = 30 then ((window_Left.f 5 10 3 4 39).bind fun t112 => (some (t112 == 1))) else (some false)) = some r := H
            have A9 := Aside0.mk A90
            clear A90
            by_cases c10 : t111 = 30
            · rw [if_pos c10] at H
              have c10b0 : (t111 == 30) = true := beq_iff_eq.mpr c10
              have c10b1 : (t111 != 30) = false := bne_eq_false_iff_eq.mpr c10
              clear c10
              replace H := Option.bind_eq_some_iff.mp H
              obtain ⟨t112, A110, H⟩ := H
              replace H : (some (t112 == 1)) = some r := H
              have A11 := Aside0.mk A110
              clear A110
              obtain rfl := Option.some.inj H
              go_enter Try.func8, Try.ntmps8
              go_wp2_with (first | ((with_reducible refine gate_callee (f := 13) rfl ?_); refine goesL_ (some 6) rfl rfl Try.func13 (by kernel_rfl) rfl #[.int .u64 5, .int .u64 10, .int .u64 3, .int .u64 4, .int .u64 40, .int .u64 5] rfl (by (try simp only [List.map_toArray, List.map_cons, List.map_nil]); first | done | rfl | (simp only [List.length_drop, List.length_take]; rfl)) ?_; (with_reducible refine (window_Admit.calls k 5 10 3 4 40 5 t106 t107 true _ A1.out).mono ?_); rintro e w' ⟨rfl, ⟨nd, rfl⟩⟩; refine ⟨_, rfl, ?_⟩) | ((with_reducible refine gate_callee (f := 10) rfl ?_); refine goesL_ (some 10) rfl rfl Try.func10 (by kernel_rfl) rfl #[.int .u64 5, .int .u64 10, .int .u64 3, .int .u64 4, .int .u64 12, .int .u64 1] rfl (by (try simp only [List.map_toArray, List.map_cons, List.map_nil]); first | done | rfl | (simp only [List.length_drop, List.length_take]; rfl)) ?_; (with_reducible refine (window_Retry.calls k 5 10 3 4 12 1 t109 _ A2.out).mono ?_); rintro e w' ⟨rfl, ⟨nd, rfl⟩⟩; refine ⟨_, rfl, ?_⟩) | (go_at_call 14; (with_reducible refine (window_Index.calls 10 39 t110 _ A7.out).mono ?_); rintro e w' ⟨rfl, ⟨nd, rfl⟩⟩) | (go_at_call 15; (with_reducible refine (window_Start.calls 10 3 t111 _ A9.out).mono ?_); rintro e w' ⟨rfl, ⟨nd, rfl⟩⟩) | (go_at_call 12; (with_reducible refine (window_Left.calls 5 10 3 4 39 t112 _ A11.out).mono ?_); rintro e w' ⟨rfl, ⟨nd, rfl⟩⟩))
              go_ret
              exact ⟨by first | rfl | (simp; done) | (simp [*]; done) | (simp [Int.tdiv_eq_ediv_of_nonneg]; done), by repeat (first | exact Drawn0.refl _ | apply Drawn0.step)⟩
            · rw [if_neg c10] at H
              have c10b0 : (t111 == 30) = false := beq_eq_false_iff_ne.mpr c10
              have c10b1 : (t111 != 30) = true := bne_iff_ne.mpr c10
              obtain rfl := Option.some.inj H
              go_enter Try.func8, Try.ntmps8
              go_wp2_with (first | ((with_reducible refine gate_callee (f := 13) rfl ?_); refine goesL_ (some 6) rfl rfl Try.func13 (by kernel_rfl) rfl #[.int .u64 5, .int .u64 10, .int .u64 3, .int .u64 4, .int .u64 40, .int .u64 5] rfl (by (try simp only [List.map_toArray, List.map_cons, List.map_nil]); first | done | rfl | (simp only [List.length_drop, List.length_take]; rfl)) ?_; (with_reducible refine (window_Admit.calls k 5 10 3 4 40 5 t106 t107 true _ A1.out).mono ?_); rintro e w' ⟨rfl, ⟨nd, rfl⟩⟩; refine ⟨_, rfl, ?_⟩) | ((with_reducible refine gate_callee (f := 10) rfl ?_); refine goesL_ (some 10) rfl rfl Try.func10 (by kernel_rfl) rfl #[.int .u64 5, .int .u64 10, .int .u64 3, .int .u64 4, .int .u64 12, .int .u64 1] rfl (by (try simp only [List.map_toArray, List.map_cons, List.map_nil]); first | done | rfl | (simp only [List.length_drop, List.length_take]; rfl)) ?_; (with_reducible refine (window_Retry.calls k 5 10 3 4 12 1 t109 _ A2.out).mono ?_); rintro e w' ⟨rfl, ⟨nd, rfl⟩⟩; refine ⟨_, rfl, ?_⟩) | (go_at_call 14; (with_reducible refine (window_Index.calls 10 39 t110 _ A7.out).mono ?_); rintro e w' ⟨rfl, ⟨nd, rfl⟩⟩) | (go_at_call 15; (with_reducible refine (window_Start.calls 10 3 t111 _ A9.out).mono ?_); rintro e w' ⟨rfl, ⟨nd, rfl⟩⟩))
              go_ret
              exact ⟨by first | rfl | (simp; done) | (simp [*]; done) | (simp [Int.tdiv_eq_ediv_of_nonneg]; done), by repeat (first | exact Drawn0.refl _ | apply Drawn0.step)⟩
          · rw [if_neg c8] at H
            have c8b0 : (t110 == 3) = false := beq_eq_false_iff_ne.mpr c8
            have c8b1 : (t110 != 3) = true := bne_iff_ne.mpr c8
            obtain rfl := Option.some.inj H
            go_enter Try.func8, Try.ntmps8
            go_wp2_with (first | ((with_reducible refine gate_callee (f := 13) rfl ?_); refine goesL_ (some 6) rfl rfl Try.func13 (by kernel_rfl) rfl #[.int .u64 5, .int .u64 10, .int .u64 3, .int .u64 4, .int .u64 40, .int .u64 5] rfl (by (try simp only [List.map_toArray, List.map_cons, List.map_nil]); first | done | rfl | (simp only [List.length_drop, List.length_take]; rfl)) ?_; (with_reducible refine (window_Admit.calls k 5 10 3 4 40 5 t106 t107 true _ A1.out).mono ?_); rintro e w' ⟨rfl, ⟨nd, rfl⟩⟩; refine ⟨_, rfl, ?_⟩) | ((with_reducible refine gate_callee (f := 10) rfl ?_); refine goesL_ (some 10) rfl rfl Try.func10 (by kernel_rfl) rfl #[.int .u64 5, .int .u64 10, .int .u64 3, .int .u64 4, .int .u64 12, .int .u64 1] rfl (by (try simp only [List.map_toArray, List.map_cons, List.map_nil]); first | done | rfl | (simp only [List.length_drop, List.length_take]; rfl)) ?_; (with_reducible refine (window_Retry.calls k 5 10 3 4 12 1 t109 _ A2.out).mono ?_); rintro e w' ⟨rfl, ⟨nd, rfl⟩⟩; refine ⟨_, rfl, ?_⟩) | (go_at_call 14; (with_reducible refine (window_Index.calls 10 39 t110 _ A7.out).mono ?_); rintro e w' ⟨rfl, ⟨nd, rfl⟩⟩))
            go_ret
            exact ⟨by first | rfl | (simp; done) | (simp [*]; done) | (simp [Int.tdiv_eq_ediv_of_nonneg]; done), by repeat (first | exact Drawn0.refl _ | apply Drawn0.step)⟩
        · rw [if_neg c6] at H
          have c6b0 : (t109 == 30) = false := beq_eq_false_iff_ne.mpr c6
          have c6b1 : (t109 != 30) = true := bne_iff_ne.mpr c6
          obtain rfl := Option.some.inj H
          go_enter Try.func8, Try.ntmps8
          go_wp2_with (first | ((with_reducible refine gate_callee (f := 13) rfl ?_); refine goesL_ (some 6) rfl rfl Try.func13 (by kernel_rfl) rfl #[.int .u64 5, .int .u64 10, .int .u64 3, .int .u64 4, .int .u64 40, .int .u64 5] rfl (by (try simp only [List.map_toArray, List.map_cons, List.map_nil]); first | done | rfl | (simp only [List.length_drop, List.length_take]; rfl)) ?_; (with_reducible refine (window_Admit.calls k 5 10 3 4 40 5 t106 t107 true _ A1.out).mono ?_); rintro e w' ⟨rfl, ⟨nd, rfl⟩⟩; refine ⟨_, rfl, ?_⟩) | ((with_reducible refine gate_callee (f := 10) rfl ?_); refine goesL_ (some 10) rfl rfl Try.func10 (by kernel_rfl) rfl #[.int .u64 5, .int .u64 10, .int .u64 3, .int .u64 4, .int .u64 12, .int .u64 1] rfl (by (try simp only [List.map_toArray, List.map_cons, List.map_nil]); first | done | rfl | (simp only [List.length_drop, List.length_take]; rfl)) ?_; (with_reducible refine (window_Retry.calls k 5 10 3 4 12 1 t109 _ A2.out).mono ?_); rintro e w' ⟨rfl, ⟨nd, rfl⟩⟩; refine ⟨_, rfl, ?_⟩))
          go_ret
          exact ⟨by first | rfl | (simp; done) | (simp [*]; done) | (simp [Int.tdiv_eq_ediv_of_nonneg]; done), by repeat (first | exact Drawn0.refl _ | apply Drawn0.step)⟩
      · replace c5 := Bool.eq_false_iff.mpr c5
        subst c5
        have H1 : (some false) = some r := by rw [if_neg (show ¬ (false = true) by decide)] at H; exact H
        clear H
        have H := H1
        clear H1
        obtain rfl := Option.some.inj H
        go_enter Try.func8, Try.ntmps8
        go_wp2_with (first | ((with_reducible refine gate_callee (f := 13) rfl ?_); refine goesL_ (some 6) rfl rfl Try.func13 (by kernel_rfl) rfl #[.int .u64 5, .int .u64 10, .int .u64 3, .int .u64 4, .int .u64 40, .int .u64 5] rfl (by (try simp only [List.map_toArray, List.map_cons, List.map_nil]); first | done | rfl | (simp only [List.length_drop, List.length_take]; rfl)) ?_; (with_reducible refine (window_Admit.calls k 5 10 3 4 40 5 t106 t107 false _ A1.out).mono ?_); rintro e w' ⟨rfl, ⟨nd, rfl⟩⟩; refine ⟨_, rfl, ?_⟩) | ((with_reducible refine gate_callee (f := 10) rfl ?_); refine goesL_ (some 10) rfl rfl Try.func10 (by kernel_rfl) rfl #[.int .u64 5, .int .u64 10, .int .u64 3, .int .u64 4, .int .u64 12, .int .u64 1] rfl (by (try simp only [List.map_toArray, List.map_cons, List.map_nil]); first | done | rfl | (simp only [List.length_drop, List.length_take]; rfl)) ?_; (with_reducible refine (window_Retry.calls k 5 10 3 4 12 1 t109 _ A2.out).mono ?_); rintro e w' ⟨rfl, ⟨nd, rfl⟩⟩; refine ⟨_, rfl, ?_⟩))
        go_ret
        exact ⟨by first | rfl | (simp; done) | (simp [*]; done) | (simp [Int.tdiv_eq_ediv_of_nonneg]; done), by repeat (first | exact Drawn0.refl _ | apply Drawn0.step)⟩
    · rw [if_neg c4] at H
      have c4b0 : (t107 == 5) = false := beq_eq_false_iff_ne.mpr c4
      have c4b1 : (t107 != 5) = true := bne_iff_ne.mpr c4
      obtain rfl := Option.some.inj H
      go_enter Try.func8, Try.ntmps8
      go_wp2_with (first | ((with_reducible refine gate_callee (f := 13) rfl ?_); refine goesL_ (some 6) rfl rfl Try.func13 (by kernel_rfl) rfl #[.int .u64 5, .int .u64 10, .int .u64 3, .int .u64 4, .int .u64 40, .int .u64 5] rfl (by (try simp only [List.map_toArray, List.map_cons, List.map_nil]); first | done | rfl | (simp only [List.length_drop, List.length_take]; rfl)) ?_; (with_reducible refine (window_Admit.calls k 5 10 3 4 40 5 t106 t107 t108 _ A1.out).mono ?_); rintro e w' ⟨rfl, ⟨nd, rfl⟩⟩; refine ⟨_, rfl, ?_⟩) | ((with_reducible refine gate_callee (f := 10) rfl ?_); refine goesL_ (some 10) rfl rfl Try.func10 (by kernel_rfl) rfl #[.int .u64 5, .int .u64 10, .int .u64 3, .int .u64 4, .int .u64 12, .int .u64 1] rfl (by (try simp only [List.map_toArray, List.map_cons, List.map_nil]); first | done | rfl | (simp only [List.length_drop, List.length_take]; rfl)) ?_; (with_reducible refine (window_Retry.calls k 5 10 3 4 12 1 t109 _ A2.out).mono ?_); rintro e w' ⟨rfl, ⟨nd, rfl⟩⟩; refine ⟨_, rfl, ?_⟩))
      go_ret
      exact ⟨by first | rfl | (simp; done) | (simp [*]; done) | (simp [Int.tdiv_eq_ediv_of_nonneg]; done), by repeat (first | exact Drawn0.refl _ | apply Drawn0.step)⟩
  · rw [if_neg c3] at H
    have c3b0 : (t106 == 4) = false := beq_eq_false_iff_ne.mpr c3
    have c3b1 : (t106 != 4) = true := bne_iff_ne.mpr c3
    obtain rfl := Option.some.inj H
    go_enter Try.func8, Try.ntmps8
    go_wp2_with (first | ((with_reducible refine gate_callee (f := 13) rfl ?_); refine goesL_ (some 6) rfl rfl Try.func13 (by kernel_rfl) rfl #[.int .u64 5, .int .u64 10, .int .u64 3, .int .u64 4, .int .u64 40, .int .u64 5] rfl (by (try simp only [List.map_toArray, List.map_cons, List.map_nil]); first | done | rfl | (simp only [List.length_drop, List.length_take]; rfl)) ?_; (with_reducible refine (window_Admit.calls k 5 10 3 4 40 5 t106 t107 t108 _ A1.out).mono ?_); rintro e w' ⟨rfl, ⟨nd, rfl⟩⟩; refine ⟨_, rfl, ?_⟩) | ((with_reducible refine gate_callee (f := 10) rfl ?_); refine goesL_ (some 10) rfl rfl Try.func10 (by kernel_rfl) rfl #[.int .u64 5, .int .u64 10, .int .u64 3, .int .u64 4, .int .u64 12, .int .u64 1] rfl (by (try simp only [List.map_toArray, List.map_cons, List.map_nil]); first | done | rfl | (simp only [List.length_drop, List.length_take]; rfl)) ?_; (with_reducible refine (window_Retry.calls k 5 10 3 4 12 1 t109 _ A2.out).mono ?_); rintro e w' ⟨rfl, ⟨nd, rfl⟩⟩; refine ⟨_, rfl, ?_⟩))
    go_ret
    exact ⟨by first | rfl | (simp; done) | (simp [*]; done) | (simp [Int.tdiv_eq_ediv_of_nonneg]; done), by repeat (first | exact Drawn0.refl _ | apply Drawn0.step)⟩

/-! ### turnstileref05_Index: function 16 -/
def turnstileref05_Index.f (a0 : Int) (a1 : Int) : Option (Int) := if a0 = 0 then (some 0) else (some (IntKind.u64.wrap (Int.tdiv a1 a0)))
set_option maxHeartbeats 8000000 in
set_option maxRecDepth 100000 in
theorem turnstileref05_Index.calls (a0 : Int) (a1 : Int) (r : Int) (w : World) (h : turnstileref05_Index.f a0 a1 = some r) :
    Calls Try.prog 16 #[.int .u64 a0, .int .u64 a1] w fun e w' => e = .returned (.int .u64 r) ∧ Drawn0 w w' := by
  have H : (if a0 = 0 then (some 0) else (some (IntKind.u64.wrap (Int.tdiv a1 a0)))) = some r := h
  clear h
  by_cases c3 : a0 = 0
  · rw [if_pos c3] at H
    have c3b0 : (a0 == 0) = true := beq_iff_eq.mpr c3
    have c3b1 : (a0 != 0) = false := bne_eq_false_iff_eq.mpr c3
    clear c3
    obtain rfl := Option.some.inj H
    go_enter Try.func16, Try.ntmps16
    go_wp2
    go_ret
    exact ⟨by first | rfl | (simp; done) | (simp [*]; done) | (simp [Int.tdiv_eq_ediv_of_nonneg]; done), by repeat (first | exact Drawn0.refl _ | apply Drawn0.step)⟩
  · rw [if_neg c3] at H
    have c3b0 : (a0 == 0) = false := beq_eq_false_iff_ne.mpr c3
    have c3b1 : (a0 != 0) = true := bne_iff_ne.mpr c3
    obtain rfl := Option.some.inj H
    go_enter Try.func16, Try.ntmps16
    go_wp2
    go_ret
    exact ⟨by first | rfl | (simp; done) | (simp [*]; done) | (simp [Int.tdiv_eq_ediv_of_nonneg]; done), by repeat (first | exact Drawn0.refl _ | apply Drawn0.step)⟩

/-! ### turnstileref05_fits: function 22 -/
def turnstileref05_fits.f (a0 : Int) (a1 : Int) : Option (Bool) := if a0 = 0 then (some true) else (some (decide (a1 ≤ (IntKind.u64.wrap ((18446744073709551615 : Int) / a0)))))
set_option maxHeartbeats 8000000 in
set_option maxRecDepth 100000 in
theorem turnstileref05_fits.calls (a0 : Int) (a1 : Int) (r : Bool) (w : World) (h : turnstileref05_fits.f a0 a1 = some r) :
    Calls Try.prog 22 #[.int .u64 a0, .int .u64 a1] w fun e w' => e = .returned (.bool r) ∧ Drawn0 w w' := by
  have H : (if a0 = 0 then (some true) else (some (decide (a1 ≤ (IntKind.u64.wrap ((18446744073709551615 : Int) / a0)))))) = some r := h
  clear h
  by_cases c3 : a0 = 0
  · rw [if_pos c3] at H
    have c3b0 : (a0 == 0) = true := beq_iff_eq.mpr c3
    have c3b1 : (a0 != 0) = false := bne_eq_false_iff_eq.mpr c3
    clear c3
    obtain rfl := Option.some.inj H
    go_enter Try.func22, Try.ntmps22
    go_wp2
    go_ret
    exact ⟨by first | rfl | (simp; done) | (simp [*]; done) | (simp [Int.tdiv_eq_ediv_of_nonneg]; done), by repeat (first | exact Drawn0.refl _ | apply Drawn0.step)⟩
  · rw [if_neg c3] at H
    have c3b0 : (a0 == 0) = false := beq_eq_false_iff_ne.mpr c3
    have c3b1 : (a0 != 0) = true := bne_iff_ne.mpr c3
    obtain rfl := Option.some.inj H
    go_enter Try.func22, Try.ntmps22
    go_wp2
    go_ret
    exact ⟨by first | rfl | (simp; done) | (simp [*]; done) | (simp [Int.tdiv_eq_ediv_of_nonneg]; done), by repeat (first | exact Drawn0.refl _ | apply Drawn0.step)⟩

/-! ### turnstileref05_Start: function 17 -/
def turnstileref05_Start.f (a0 : Int) (a1 : Int) : Option (Int) := (turnstileref05_fits.f a0 a1).bind fun t113 => (if t113 = true then (some (IntKind.u64.wrap (a0 * a1))) else (some 18446744073709551615))
set_option maxHeartbeats 8000000 in
set_option maxRecDepth 100000 in
theorem turnstileref05_Start.calls (a0 : Int) (a1 : Int) (r : Int) (w : World) (h : turnstileref05_Start.f a0 a1 = some r) :
    Calls Try.prog 17 #[.int .u64 a0, .int .u64 a1] w fun e w' => e = .returned (.int .u64 r) ∧ Drawn0 w w' := by
  have H : ((turnstileref05_fits.f a0 a1).bind fun t113 => (if t113 = true then (some (IntKind.u64.wrap (a0 * a1))) else (some 18446744073709551615))) = some r := h
  clear h
  replace H := Option.bind_eq_some_iff.mp H
  obtain ⟨t113, A30, H⟩ := H
  replace H : (if t113 = true then (some (IntKind.u64.wrap (a0 * a1))) else (some 18446744073709551615)) = some r := H
  have A3 := Aside0.mk A30
  clear A30
  by_cases c4 : t113 = true
  · subst c4
    have H1 : (some (IntKind.u64.wrap (a0 * a1))) = some r := by rw [if_pos rfl] at H; exact H
    clear H
    have H := H1
    clear H1
    obtain rfl := Option.some.inj H
    go_enter Try.func17, Try.ntmps17
    go_wp2_with (first | ((with_reducible refine gate_callee (f := 22) rfl ?_); refine goesL_ (some 7) rfl rfl Try.func22 (by kernel_rfl) rfl #[.int .u64 a0, .int .u64 a1] rfl (by (try simp only [List.map_toArray, List.map_cons, List.map_nil]); first | done | rfl | (simp only [List.length_drop, List.length_take]; rfl)) ?_; (with_reducible refine (turnstileref05_fits.calls a0 a1 true _ A3.out).mono ?_); rintro e w' ⟨rfl, ⟨nd, rfl⟩⟩; refine ⟨_, rfl, ?_⟩))
    go_ret
    exact ⟨by first | rfl | (simp; done) | (simp [*]; done) | (simp [Int.tdiv_eq_ediv_of_nonneg]; done), by repeat (first | exact Drawn0.refl _ | apply Drawn0.step)⟩
  · replace c4 := Bool.eq_false_iff.mpr c4
    subst c4
    have H1 : (some 18446744073709551615) = some r := by rw [if_neg (show ¬ (false = true) by decide)] at H; exact H
    clear H
    have H := H1
    clear H1
    obtain rfl := Option.some.inj H
    go_enter Try.func17, Try.ntmps17
    go_wp2_with (first | ((with_reducible refine gate_callee (f := 22) rfl ?_); refine goesL_ (some 7) rfl rfl Try.func22 (by kernel_rfl) rfl #[.int .u64 a0, .int .u64 a1] rfl (by (try simp only [List.map_toArray, List.map_cons, List.map_nil]); first | done | rfl | (simp only [List.length_drop, List.length_take]; rfl)) ?_; (with_reducible refine (turnstileref05_fits.calls a0 a1 false _ A3.out).mono ?_); rintro e w' ⟨rfl, ⟨nd, rfl⟩⟩; refine ⟨_, rfl, ?_⟩))
    go_ret
    exact ⟨by first | rfl | (simp; done) | (simp [*]; done) | (simp [Int.tdiv_eq_ediv_of_nonneg]; done), by repeat (first | exact Drawn0.refl _ | apply Drawn0.step)⟩

/-! ### turnstileref05_Left: function 20 -/
def turnstileref05_Left.f (a0 : Int) (a1 : Int) (a2 : Int) (a3 : Int) (a4 : Int) : Option (Int) := if a1 = 0 then (some 0) else (if (IntKind.u64.wrap (Int.tdiv a4 a1)) > a2 then (some a0) else (if (IntKind.u64.wrap (Int.tdiv a4 a1)) < a2 then (some 0) else (if a3 ≥ a0 then (some 0) else (some (IntKind.u64.wrap (a0 - a3))))))
set_option maxHeartbeats 8000000 in
set_option maxRecDepth 100000 in
theorem turnstileref05_Left.calls (a0 : Int) (a1 : Int) (a2 : Int) (a3 : Int) (a4 : Int) (r : Int) (w : World) (h : turnstileref05_Left.f a0 a1 a2 a3 a4 = some r) :
    Calls Try.prog 20 #[.int .u64 a0, .int .u64 a1, .int .u64 a2, .int .u64 a3, .int .u64 a4] w fun e w' => e = .returned (.int .u64 r) ∧ Drawn0 w w' := by
  have H : (if a1 = 0 then (some 0) else (if (IntKind.u64.wrap (Int.tdiv a4 a1)) > a2 then (some a0) else (if (IntKind.u64.wrap (Int.tdiv a4 a1)) < a2 then (some 0) else (if a3 ≥ a0 then (some 0) else (some (IntKind.u64.wrap (a0 - a3))))))) = some r := h
  clear h
  by_cases c6 : a1 = 0
  · rw [if_pos c6] at H
    have c6b0 : (a1 == 0) = true := beq_iff_eq.mpr c6
    have c6b1 : (a1 != 0) = false := bne_eq_false_iff_eq.mpr c6
    clear c6
    obtain rfl := Option.some.inj H
    go_enter Try.func20, Try.ntmps20
    go_wp2
    go_ret
    exact ⟨by first | rfl | (simp; done) | (simp [*]; done) | (simp [Int.tdiv_eq_ediv_of_nonneg]; done), by repeat (first | exact Drawn0.refl _ | apply Drawn0.step)⟩
  · rw [if_neg c6] at H
    have c6b0 : (a1 == 0) = false := beq_eq_false_iff_ne.mpr c6
    have c6b1 : (a1 != 0) = true := bne_iff_ne.mpr c6
    by_cases c7 : (IntKind.u64.wrap (Int.tdiv a4 a1)) > a2
    · rw [if_pos c7] at H
      have c7b0 : decide (a2 < (IntKind.u64.wrap (Int.tdiv a4 a1))) = true := decide_eq_true c7
      clear c7
      obtain rfl := Option.some.inj H
      go_enter Try.func20, Try.ntmps20
      go_wp2
      go_ret
      exact ⟨by first | rfl | (simp; done) | (simp [*]; done) | (simp [Int.tdiv_eq_ediv_of_nonneg]; done), by repeat (first | exact Drawn0.refl _ | apply Drawn0.step)⟩
    · rw [if_neg c7] at H
      have c7b0 : decide (a2 < (IntKind.u64.wrap (Int.tdiv a4 a1))) = false := decide_eq_false c7
      clear c7
      by_cases c8 : (IntKind.u64.wrap (Int.tdiv a4 a1)) < a2
      · rw [if_pos c8] at H
        have c8b0 : decide ((IntKind.u64.wrap (Int.tdiv a4 a1)) < a2) = true := decide_eq_true c8
        clear c8
        obtain rfl := Option.some.inj H
        go_enter Try.func20, Try.ntmps20
        go_wp2
        go_ret
        exact ⟨by first | rfl | (simp; done) | (simp [*]; done) | (simp [Int.tdiv_eq_ediv_of_nonneg]; done), by repeat (first | exact Drawn0.refl _ | apply Drawn0.step)⟩
      · rw [if_neg c8] at H
        have c8b0 : decide ((IntKind.u64.wrap (Int.tdiv a4 a1)) < a2) = false := decide_eq_false c8
        clear c8
        by_cases c9 : a3 ≥ a0
        · rw [if_pos c9] at H
          have c9b0 : decide (a0 ≤ a3) = true := decide_eq_true c9
          clear c9
          obtain rfl := Option.some.inj H
          go_enter Try.func20, Try.ntmps20
          go_wp2
          go_ret
          exact ⟨by first | rfl | (simp; done) | (simp [*]; done) | (simp [Int.tdiv_eq_ediv_of_nonneg]; done), by repeat (first | exact Drawn0.refl _ | apply Drawn0.step)⟩
        · rw [if_neg c9] at H
          have c9b0 : decide (a0 ≤ a3) = false := decide_eq_false c9
          clear c9
          obtain rfl := Option.some.inj H
          go_enter Try.func20, Try.ntmps20
          go_wp2
          go_ret
          exact ⟨by first | rfl | (simp; done) | (simp [*]; done) | (simp [Int.tdiv_eq_ediv_of_nonneg]; done), by repeat (first | exact Drawn0.refl _ | apply Drawn0.step)⟩

/-! ### turnstileref05_Admit: function 18 -/
def turnstileref05_Admit.j0 : Nat → Int → Int → Int → Int → Int → Bool → Option (Int × Int × Bool)
  | 0, _, _, _, _, _, _ => none
  | k + 1, x1, x2, x3, x4, x5, x27 => if x27 = true then (some (x2, x3, false)) else (if x1 = 0 then (none) else (if (IntKind.u64.wrap (Int.tdiv x4 x1)) = x2 then (some (x2, IntKind.u64.wrap (x3 + x5), true)) else (some (IntKind.u64.wrap (Int.tdiv x4 x1), x5, true))))
def turnstileref05_Admit.f (k : Nat) (a0 : Int) (a1 : Int) (a2 : Int) (a3 : Int) (a4 : Int) (a5 : Int) : Option (Int × Int × Bool) := if a5 = 0 then (turnstileref05_Admit.j0 k a1 a2 a3 a4 a5 true) else ((turnstileref05_Left.f a0 a1 a2 a3 a4).bind fun t114 => (turnstileref05_Admit.j0 k a1 a2 a3 a4 a5 (decide (a5 > t114))))
theorem turnstileref05_Admit.mono_l : ∀ k, (∀ y0 y1 y2 y3 y4 y5, LeO (turnstileref05_Admit.j0 k y0 y1 y2 y3 y4 y5) (turnstileref05_Admit.j0 (k + 1) y0 y1 y2 y3 y4 y5))
  | 0 => fun _ _ _ _ _ _ r h => by simp [turnstileref05_Admit.j0] at h
  | k + 1 => by
    have ih0 := turnstileref05_Admit.mono_l k
    · intro y0 y1 y2 y3 y4 y5
      unfold turnstileref05_Admit.j0
      repeat' first
      | (with_reducible exact ih0 _ _ _ _ _ _)
      | (with_reducible exact LeO.refl _)
      | (with_reducible exact LeO.none _)
      | (with_reducible refine LeO.ite ?_ ?_)
      | (with_reducible refine LeO.bind ?_ (fun _ => ?_))
      | exact ih0 _ _ _ _ _ _
      | exact LeO.none _
      | refine LeO.ite ?_ ?_
      | refine LeO.bind ?_ (fun _ => ?_)
theorem turnstileref05_Admit.mono : ∀ a0 a1 a2 a3 a4 a5 k, LeO (turnstileref05_Admit.f k a0 a1 a2 a3 a4 a5) (turnstileref05_Admit.f (k + 1) a0 a1 a2 a3 a4 a5) := by
  intro a0 a1 a2 a3 a4 a5 k
  have ih0 := turnstileref05_Admit.mono_l k
  unfold turnstileref05_Admit.f
  repeat' first
      | (with_reducible exact ih0 _ _ _ _ _ _)
      | (with_reducible exact LeO.refl _)
      | (with_reducible exact LeO.none _)
      | (with_reducible refine LeO.ite ?_ ?_)
      | (with_reducible refine LeO.bind ?_ (fun _ => ?_))
      | exact ih0 _ _ _ _ _ _
      | exact LeO.none _
      | refine LeO.ite ?_ ?_
      | refine LeO.bind ?_ (fun _ => ?_)
set_option maxHeartbeats 8000000 in
set_option maxRecDepth 100000 in
theorem turnstileref05_Admit.calls (k : Nat) (a0 : Int) (a1 : Int) (a2 : Int) (a3 : Int) (a4 : Int) (a5 : Int) (r1 : Int) (r2 : Int) (r3 : Bool) (w : World) (h : turnstileref05_Admit.f k a0 a1 a2 a3 a4 a5 = some (r1, r2, r3)) :
    Calls Try.prog 18 #[.int .u64 a0, .int .u64 a1, .int .u64 a2, .int .u64 a3, .int .u64 a4, .int .u64 a5] w fun e w' => e = .returned (.tuple #[.int .u64 r1, .int .u64 r2, .bool r3]) ∧ Drawn0 w w' := by
  have H : (if a5 = 0 then (turnstileref05_Admit.j0 k a1 a2 a3 a4 a5 true) else ((turnstileref05_Left.f a0 a1 a2 a3 a4).bind fun t114 => (turnstileref05_Admit.j0 k a1 a2 a3 a4 a5 (decide (a5 > t114))))) = some (r1, r2, r3) := h
  clear h
  have HC7 := Aside0.mk H
  clear H
  go_enter Try.func18, Try.ntmps18
  go_upto_region 1 with (fail)
  go_cut [27] (fun v27 wc => ∃ (kq : Nat) (x27_6 : Bool), v27 = .bool x27_6 ∧ Aside0 (turnstileref05_Admit.j0 kq a1 a2 a3 a4 a5 x27_6 = some (r1, r2, r3)) ∧ Aside0 (kq ≤ k) ∧ Drawn0 w wc)
  case first =>
    have H := HC7.out
    clear HC7
    by_cases c8 : a5 = 0
    · rw [if_pos c8] at H
      have c8b0 : (a5 == 0) = true := beq_iff_eq.mpr c8
      have c8b1 : (a5 != 0) = false := bne_eq_false_iff_eq.mpr c8
      clear c8
      (first | rw [c8b0] | (simp only [i64_w, i32_w]; rw [c8b0]) | skip)
      have H' := Aside0.mk H
      clear H
      go_wp2
      go_meet
      case rel => exact ⟨_, (true), (by first | rfl | (simp; done) | (simp [*]; done)), H', ⟨by first | omega | exact Nat.le_refl _⟩, by repeat (first | exact Drawn0.refl _ | apply Drawn0.step)⟩
    · rw [if_neg c8] at H
      have c8b0 : (a5 == 0) = false := beq_eq_false_iff_ne.mpr c8
      have c8b1 : (a5 != 0) = true := bne_iff_ne.mpr c8
      (first | rw [c8b0] | (simp only [i64_w, i32_w]; rw [c8b0]) | skip)
      replace H := Option.bind_eq_some_iff.mp H
      obtain ⟨t114, A90, H⟩ := H
      replace H : (turnstileref05_Admit.j0 k a1 a2 a3 a4 a5 (decide (a5 > t114))) = some (r1, r2, r3) := H
      have A9 := Aside0.mk A90
      clear A90
      have H' := Aside0.mk H
      clear H
      go_wp2_with (first | (go_at_call 20; (with_reducible refine (turnstileref05_Left.calls a0 a1 a2 a3 a4 t114 _ A9.out).mono ?_); rintro e w' ⟨rfl, ⟨nd, rfl⟩⟩))
      go_meet
      case rel => exact ⟨_, (decide (a5 > t114)), (by first | rfl | (simp; done) | (simp [*]; done)), H', ⟨by first | omega | exact Nat.le_refl _⟩, by repeat (first | exact Drawn0.refl _ | apply Drawn0.step)⟩
  case rest =>
    clear HC7
    try clear c1
    try clear p2
    try clear c8
    try clear c8b0
    try clear c8b1
    obtain ⟨kq, x27_6, rfl, HA, HJ6, ⟨mc6, rfl⟩⟩ := hcut
    cases kq with
    | zero => exact absurd HA.out (by simp [turnstileref05_Admit.j0])
    | succ kj6 =>
      have H := HA.out
      clear HA
      simp only [turnstileref05_Admit.j0] at H
      by_cases c10 : x27_6 = true
      · subst c10
        have H1 : (some (a2, a3, false)) = some (r1, r2, r3) := by rw [if_pos rfl] at H; exact H
        clear H
        have H := H1
        clear H1
        simp only [Option.some.injEq, Prod.mk.injEq] at H
        obtain ⟨rfl, rfl, rfl⟩ := H
        go_wp2
        go_ret3
        exact ⟨by first | rfl | (simp; done) | (simp [*]; done) | (simp [Int.tdiv_eq_ediv_of_nonneg]; done), by repeat (first | exact Drawn0.refl _ | apply Drawn0.step)⟩
      · replace c10 := Bool.eq_false_iff.mpr c10
        subst c10
        have H1 : (if a1 = 0 then (none) else (if (IntKind.u64.wrap (Int.tdiv a4 a1)) = a2 then (some (a2, IntKind.u64.wrap (a3 + a5), true)) else (some (IntKind.u64.wrap (Int.tdiv a4 a1), a5, true)))) = some (r1, r2, r3) := by rw [if_neg (show ¬ (false = true) by decide)] at H; exact H
        clear H
        have H := H1
        clear H1
        by_cases c11 : a1 = 0
        · rw [if_pos c11] at H
          exact absurd H (by simp)
        · rw [if_neg c11] at H
          have c11b0 : (a1 == 0) = false := beq_eq_false_iff_ne.mpr c11
          have c11b1 : (a1 != 0) = true := bne_iff_ne.mpr c11
          by_cases c12 : (IntKind.u64.wrap (Int.tdiv a4 a1)) = a2
          · rw [if_pos c12] at H
            have c12b0 : ((IntKind.u64.wrap (Int.tdiv a4 a1)) == a2) = true := beq_iff_eq.mpr c12
            have c12b1 : ((IntKind.u64.wrap (Int.tdiv a4 a1)) != a2) = false := bne_eq_false_iff_eq.mpr c12
            clear c12
            simp only [Option.some.injEq, Prod.mk.injEq] at H
            obtain ⟨rfl, rfl, rfl⟩ := H
            go_wp2
            go_ret3
            exact ⟨by first | rfl | (simp; done) | (simp [*]; done) | (simp [Int.tdiv_eq_ediv_of_nonneg]; done), by repeat (first | exact Drawn0.refl _ | apply Drawn0.step)⟩
          · rw [if_neg c12] at H
            have c12b0 : ((IntKind.u64.wrap (Int.tdiv a4 a1)) == a2) = false := beq_eq_false_iff_ne.mpr c12
            have c12b1 : ((IntKind.u64.wrap (Int.tdiv a4 a1)) != a2) = true := bne_iff_ne.mpr c12
            simp only [Option.some.injEq, Prod.mk.injEq] at H
            obtain ⟨rfl, rfl, rfl⟩ := H
            go_wp2
            go_ret3
            exact ⟨by first | rfl | (simp; done) | (simp [*]; done) | (simp [Int.tdiv_eq_ediv_of_nonneg]; done), by repeat (first | exact Drawn0.refl _ | apply Drawn0.step)⟩

end Go.Proofs.Ytocchdbmeokmhaa.PWin
