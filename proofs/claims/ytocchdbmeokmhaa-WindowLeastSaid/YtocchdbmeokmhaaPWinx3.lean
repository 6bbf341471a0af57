-- made by a program of this session (wip/tools/pp.py) over the kit's print
import Derived.Test.YtocchdbmeokmhaaPWinx0
import Derived.Test.YtocchdbmeokmhaaPWinx1
import Derived.Test.YtocchdbmeokmhaaPWinx2
namespace Go.Proofs.Ytocchdbmeokmhaa.PWin
open Go.RowKit Go.Proofs.YtocchdbmeokmhaaW.PrintWords Go.Proofs.YtocchdbmeokmhaaW.PrintLast Go.Proofs.YtocchdbmeokmhaaW.PrintMore
attribute [local go_sem] max2_int min2_int max_two min_two max_three min_three max_four min_four   -- for this text's walks alone
set_option linter.unusedVariables false
set_option linter.unusedSimpArgs false

/-! ### turnstilelaw05_WindowLeast: function 4 -/
def turnstilelaw05_WindowLeast.j0 : Nat → Int → Int → Bool → Int → Int → Int → Int → Int → Int → Int → Option (Bool)
  | 0, _, _, _, _, _, _, _, _, _, _ => none
  | k + 1, x1, x6, x37, x143000, x143001, x143002, x143003, x143004, x143005, x143006 => if x37 = true then (some false) else (if x6 = x143005 then (some true) else (if (IntKind.u64.wrap (x6 - x143005)) = 0 then (none) else ((turnstilelaw05_admits.f k x143000 x143001 x143002 x143003 x143004 x143005 x143006 (IntKind.u64.wrap (x6 - 1))).bind fun t146 => (if t146 = true then (some false) else ((turnstilelaw05_admits.f k x143000 x143001 x143002 x143003 x143004 x143005 x143006 (IntKind.u64.wrap (x143005 + (Int.tmod x1 (IntKind.u64.wrap (x6 - x143005)))))).bind fun t147 => (if t147 = true then (some false) else ((turnstilelaw05_admits.f k x143000 x143001 x143002 x143003 x143004 x143005 x143006 x143005).bind fun t148 => (some (!t148)))))))))
def turnstilelaw05_WindowLeast.f (k : Nat) (a0_0 : Int) (a0_1 : Int) (a0_2 : Int) (a0_3 : Int) (a0_4 : Int) (a0_5 : Int) (a0_6 : Int) (a1 : Int) : Option (Bool) := (turnstilelaw05_awake.f k).bind fun t143 => (if t143 = true then ((window_Retry.f k a0_1 a0_2 a0_3 a0_4 a0_5 a0_6).bind fun t144 => (if t144 < a0_5 then (some false) else ((turnstilelaw05_admits.f k a0_0 a0_1 a0_2 a0_3 a0_4 a0_5 a0_6 t144).bind fun t145 => (if t145 = true then (turnstilelaw05_WindowLeast.j0 k a1 t144 false a0_0 a0_1 a0_2 a0_3 a0_4 a0_5 a0_6) else (turnstilelaw05_WindowLeast.j0 k a1 t144 (t144 != 18446744073709551615) a0_0 a0_1 a0_2 a0_3 a0_4 a0_5 a0_6))))) else (some false))
theorem turnstilelaw05_WindowLeast.mono_l : ∀ k, (∀ y0 y1 y2 y3 y4 y5 y6 y7 y8 y9, LeO (turnstilelaw05_WindowLeast.j0 k y0 y1 y2 y3 y4 y5 y6 y7 y8 y9) (turnstilelaw05_WindowLeast.j0 (k + 1) y0 y1 y2 y3 y4 y5 y6 y7 y8 y9))
  | 0 => fun _ _ _ _ _ _ _ _ _ _ r h => by simp [turnstilelaw05_WindowLeast.j0] at h
  | k + 1 => by
    have ih0 := turnstilelaw05_WindowLeast.mono_l k
    · intro y0 y1 y2 y3 y4 y5 y6 y7 y8 y9
      unfold turnstilelaw05_WindowLeast.j0
      repeat' first
      | (with_reducible exact ih0 _ _ _ _ _ _ _ _ _ _)
      | (with_reducible exact turnstilelaw05_admits.mono _ _ _ _ _ _ _ _ _)
      | (with_reducible exact turnstilelaw05_awake.mono _)
      | (with_reducible exact window_Retry.mono _ _ _ _ _ _ _)
      | (with_reducible exact LeO.refl _)
      | (with_reducible exact LeO.none _)
      | (with_reducible refine LeO.ite ?_ ?_)
      | (with_reducible refine LeO.bind ?_ (fun _ => ?_))
      | exact ih0 _ _ _ _ _ _ _ _ _ _
      | exact turnstilelaw05_admits.mono _ _ _ _ _ _ _ _ _
      | exact turnstilelaw05_awake.mono _
      | exact window_Retry.mono _ _ _ _ _ _ _
      | exact LeO.none _
      | refine LeO.ite ?_ ?_
      | refine LeO.bind ?_ (fun _ => ?_)
theorem turnstilelaw05_WindowLeast.mono : ∀ a0 a1 a2 a3 a4 a5 a6 a7 k, LeO (turnstilelaw05_WindowLeast.f k a0 a1 a2 a3 a4 a5 a6 a7) (turnstilelaw05_WindowLeast.f (k + 1) a0 a1 a2 a3 a4 a5 a6 a7) := by
  intro a0 a1 a2 a3 a4 a5 a6 a7 k
  have ih0 := turnstilelaw05_WindowLeast.mono_l k
  unfold turnstilelaw05_WindowLeast.f
  repeat' first
      | (with_reducible exact ih0 _ _ _ _ _ _ _ _ _ _)
      | (with_reducible exact turnstilelaw05_admits.mono _ _ _ _ _ _ _ _ _)
      | (with_reducible exact turnstilelaw05_awake.mono _)
      | (with_reducible exact window_Retry.mono _ _ _ _ _ _ _)
      | (with_reducible exact LeO.refl _)
      | (with_reducible exact LeO.none _)
      | (with_reducible refine LeO.ite ?_ ?_)
      | (with_reducible refine LeO.bind ?_ (fun _ => ?_))
      | exact ih0 _ _ _ _ _ _ _ _ _ _
      | exact turnstilelaw05_admits.mono _ _ _ _ _ _ _ _ _
      | exact turnstilelaw05_awake.mono _
      | exact window_Retry.mono _ _ _ _ _ _ _
      | exact LeO.none _
      | refine LeO.ite ?_ ?_
      | refine LeO.bind ?_ (fun _ => ?_)
set_option maxHeartbeats 8000000 in
set_option maxRecDepth 100000 in
theorem turnstilelaw05_WindowLeast.calls (k : Nat) (a0_0 : Int) (a0_1 : Int) (a0_2 : Int) (a0_3 : Int) (a0_4 : Int) (a0_5 : Int) (a0_6 : Int) (a1 : Int) (r : Bool) (w : World) (h : turnstilelaw05_WindowLeast.f k a0_0 a0_1 a0_2 a0_3 a0_4 a0_5 a0_6 a1 = some r) :
    Calls Try.prog 4 #[.agg #[.int .i64 a0_0, .int .u64 a0_1, .int .u64 a0_2, .int .u64 a0_3, .int .u64 a0_4, .int .u64 a0_5, .int .u64 a0_6], .int .u64 a1] w fun e w' => e = .returned (.bool r) ∧ Below w.heap.size w w' := by
  have hu27 := Try.underlying27
  have HB := Aside0.mk (Below.refl w.heap.size w)
  have H : ((turnstilelaw05_awake.f k).bind fun t143 => (if t143 = true then ((window_Retry.f k a0_1 a0_2 a0_3 a0_4 a0_5 a0_6).bind fun t144 => (if t144 < a0_5 then (some false) else ((turnstilelaw05_admits.f k a0_0 a0_1 a0_2 a0_3 a0_4 a0_5 a0_6 t144).bind fun t145 => (if t145 = true then (turnstilelaw05_WindowLeast.j0 k a1 t144 false a0_0 a0_1 a0_2 a0_3 a0_4 a0_5 a0_6) else (turnstilelaw05_WindowLeast.j0 k a1 t144 (t144 != 18446744073709551615) a0_0 a0_1 a0_2 a0_3 a0_4 a0_5 a0_6))))) else (some false))) = some r := h
  clear h
  replace H := Option.bind_eq_some_iff.mp H
  obtain ⟨t143, A30, H⟩ := H
  replace H : (if t143 = true then ((window_Retry.f k a0_1 a0_2 a0_3 a0_4 a0_5 a0_6).bind fun t144 => (if t144 < a0_5 then (some false) else ((turnstilelaw05_admits.f k a0_0 a0_1 a0_2 a0_3 a0_4 a0_5 a0_6 t144).bind fun t145 => (if t145 = true then (turnstilelaw05_WindowLeast.j0 k a1 t144 false a0_0 a0_1 a0_2 a0_3 a0_4 a0_5 a0_6) else (turnstilelaw05_WindowLeast.j0 k a1 t144 (t144 != 18446744073709551615) a0_0 a0_1 a0_2 a0_3 a0_4 a0_5 a0_6))))) else (some false)) = some r := H
  have A3 := Aside0.mk A30
  clear A30
  by_cases c4 : t143 = true
  · subst c4
    have H1 : ((window_Retry.f k a0_1 a0_2 a0_3 a0_4 a0_5 a0_6).bind fun t144 => (if t144 < a0_5 then (some false) else ((turnstilelaw05_admits.f k a0_0 a0_1 a0_2 a0_3 a0_4 a0_5 a0_6 t144).bind fun t145 => (if t145 = true then (turnstilelaw05_WindowLeast.j0 k a1 t144 false a0_0 a0_1 a0_2 a0_3 a0_4 a0_5 a0_6) else (turnstilelaw05_WindowLeast.j0 k a1 t144 (t144 != 18446744073709551615) a0_0 a0_1 a0_2 a0_3 a0_4 a0_5 a0_6))))) = some r := by rw [if_pos rfl] at H; exact H
    clear H
    have H := H1
    clear H1
    replace H := Option.bind_eq_some_iff.mp H
    obtain ⟨t144, A50, H⟩ := H
    replace H : (if t144 < a0_5 then (some false) else ((turnstilelaw05_admits.f k a0_0 a0_1 a0_2 a0_3 a0_4 a0_5 a0_6 t144).bind fun t145 => (if t145 = true then (turnstilelaw05_WindowLeast.j0 k a1 t144 false a0_0 a0_1 a0_2 a0_3 a0_4 a0_5 a0_6) else (turnstilelaw05_WindowLeast.j0 k a1 t144 (t144 != 18446744073709551615) a0_0 a0_1 a0_2 a0_3 a0_4 a0_5 a0_6)))) = some r := H
    have A5 := Aside0.mk A50
    clear A50
    by_cases c6 : t144 < a0_5
    · rw [if_pos c6] at H
      have c6b0 : decide (t144 < a0_5) = true := decide_eq_true c6
      clear c6
      obtain rfl := Option.some.inj H
      go_enter Try.func4, Try.ntmps4
      go_wp2_with (first | ((with_reducible refine gate_dst (N := 2) rfl ?_); refine box_event ?hg (N := 2) ?hd (cs := #[.int .i64 a0_0, .int .u64 a0_1, .int .u64 a0_2, .int .u64 a0_3, .int .u64 a0_4, .int .u64 a0_5, .int .u64 a0_6]) (t := 27) ?hr ?_; (case hd => rfl); (case hg => rfl); (case hr => first | (go_simp; done) | (go_simp; rfl)); intro gb142 hg w7 hbox hb; have n0_ := Aside0.mk (below_step (by repeat (first | (with_reducible first | exact HB.out | apply below_alloc | apply pw_below_drewN | apply below_drew1) | exact HB.out)) hb); have n1_ := Aside0.mk (hbox); have n2_ := Aside0.mk ((by rw [hg]; exact (below_size (by repeat (first | (with_reducible first | exact HB.out | apply below_alloc | apply pw_below_drewN | apply below_drew1) | exact HB.out))) : w.heap.size ≤ gb142)); have n3_ := Aside0.mk ((by rw [hg]; exact (below_size (by repeat (first | (with_reducible first | exact HB.out | apply below_alloc | apply pw_below_drewN | apply below_drew1) | exact HB.out))) : w.heap.size ≤ gb142)); clear HB; have HB := n0_; have BK142 := n1_; have GW142 := n2_; have GE142 := n3_; clear n0_ n1_ n2_ n3_; clear hb hbox hg) | (go_at_call 8; (with_reducible refine (turnstilelaw05_awake.calls k  true _ A3.out).mono ?_); rintro e w' ⟨rfl, ⟨nd, rfl⟩⟩; (try first | exact ⟨rfl, _, World.drewN_drewN _ _ _⟩ | exact ⟨rfl, _, Eq.trans (World.drewN_drewN _ _ _) (congrArg (World.drewN _) (Nat.add_assoc _ _ _))⟩); have hcz8_0 : w7.cell? ⟨gb142, 0, none⟩ = some (.int .i64 a0_0) := (blk_cell BK142.out 0).trans rfl; have hcz8_1 : w7.cell? ⟨gb142, 1, none⟩ = some (.int .u64 a0_1) := (blk_cell BK142.out 1).trans rfl; have hcz8_2 : w7.cell? ⟨gb142, 2, none⟩ = some (.int .u64 a0_2) := (blk_cell BK142.out 2).trans rfl; have hcz8_3 : w7.cell? ⟨gb142, 3, none⟩ = some (.int .u64 a0_3) := (blk_cell BK142.out 3).trans rfl; have hcz8_4 : w7.cell? ⟨gb142, 4, none⟩ = some (.int .u64 a0_4) := (blk_cell BK142.out 4).trans rfl; have hcz8_5 : w7.cell? ⟨gb142, 5, none⟩ = some (.int .u64 a0_5) := (blk_cell BK142.out 5).trans rfl; have hcz8_6 : w7.cell? ⟨gb142, 6, none⟩ = some (.int .u64 a0_6) := (blk_cell BK142.out 6).trans rfl; have hfz8_0 := blk_frozen BK142.out 0; have hfz8_1 := blk_frozen BK142.out 1; have hfz8_2 := blk_frozen BK142.out 2; have hfz8_3 := blk_frozen BK142.out 3; have hfz8_4 := blk_frozen BK142.out 4; have hfz8_5 := blk_frozen BK142.out 5; have hfz8_6 := blk_frozen BK142.out 6) | (go_at_call 10; (with_reducible refine (window_Retry.calls k a0_1 a0_2 a0_3 a0_4 a0_5 a0_6 t144 _ A5.out).mono ?_); rintro e w' ⟨rfl, ⟨nd, rfl⟩⟩; (try first | exact ⟨rfl, _, World.drewN_drewN _ _ _⟩ | exact ⟨rfl, _, Eq.trans (World.drewN_drewN _ _ _) (congrArg (World.drewN _) (Nat.add_assoc _ _ _))⟩)))
      repeat (go_quiet (first | ((with_reducible refine gate_dst (N := 2) rfl ?_); refine box_event ?hg (N := 2) ?hd (cs := #[.int .i64 a0_0, .int .u64 a0_1, .int .u64 a0_2, .int .u64 a0_3, .int .u64 a0_4, .int .u64 a0_5, .int .u64 a0_6]) (t := 27) ?hr ?_; (case hd => rfl); (case hg => rfl); (case hr => first | (go_simp; done) | (go_simp; rfl)); intro gb142 hg w7 hbox hb; have n0_ := Aside0.mk (below_step (by repeat (first | (with_reducible first | exact HB.out | apply below_alloc | apply pw_below_drewN | apply below_drew1) | exact HB.out)) hb); have n1_ := Aside0.mk (hbox); have n2_ := Aside0.mk ((by rw [hg]; exact (below_size (by repeat (first | (with_reducible first | exact HB.out | apply below_alloc | apply pw_below_drewN | apply below_drew1) | exact HB.out))) : w.heap.size ≤ gb142)); have n3_ := Aside0.mk ((by rw [hg]; exact (below_size (by repeat (first | (with_reducible first | exact HB.out | apply below_alloc | apply pw_below_drewN | apply below_drew1) | exact HB.out))) : w.heap.size ≤ gb142)); clear HB; have HB := n0_; have BK142 := n1_; have GW142 := n2_; have GE142 := n3_; clear n0_ n1_ n2_ n3_; clear hb hbox hg) | (go_at_call 8; (with_reducible refine (turnstilelaw05_awake.calls k  true _ A3.out).mono ?_); rintro e w' ⟨rfl, ⟨nd, rfl⟩⟩; (try first | exact ⟨rfl, _, World.drewN_drewN _ _ _⟩ | exact ⟨rfl, _, Eq.trans (World.drewN_drewN _ _ _) (congrArg (World.drewN _) (Nat.add_assoc _ _ _))⟩); have hcz8_0 : w7.cell? ⟨gb142, 0, none⟩ = some (.int .i64 a0_0) := (blk_cell BK142.out 0).trans rfl; have hcz8_1 : w7.cell? ⟨gb142, 1, none⟩ = some (.int .u64 a0_1) := (blk_cell BK142.out 1).trans rfl; have hcz8_2 : w7.cell? ⟨gb142, 2, none⟩ = some (.int .u64 a0_2) := (blk_cell BK142.out 2).trans rfl; have hcz8_3 : w7.cell? ⟨gb142, 3, none⟩ = some (.int .u64 a0_3) := (blk_cell BK142.out 3).trans rfl; have hcz8_4 : w7.cell? ⟨gb142, 4, none⟩ = some (.int .u64 a0_4) := (blk_cell BK142.out 4).trans rfl; have hcz8_5 : w7.cell? ⟨gb142, 5, none⟩ = some (.int .u64 a0_5) := (blk_cell BK142.out 5).trans rfl; have hcz8_6 : w7.cell? ⟨gb142, 6, none⟩ = some (.int .u64 a0_6) := (blk_cell BK142.out 6).trans rfl; have hfz8_0 := blk_frozen BK142.out 0; have hfz8_1 := blk_frozen BK142.out 1; have hfz8_2 := blk_frozen BK142.out 2; have hfz8_3 := blk_frozen BK142.out 3; have hfz8_4 := blk_frozen BK142.out 4; have hfz8_5 := blk_frozen BK142.out 5; have hfz8_6 := blk_frozen BK142.out 6) | (go_at_call 10; (with_reducible refine (window_Retry.calls k a0_1 a0_2 a0_3 a0_4 a0_5 a0_6 t144 _ A5.out).mono ?_); rintro e w' ⟨rfl, ⟨nd, rfl⟩⟩; (try first | exact ⟨rfl, _, World.drewN_drewN _ _ _⟩ | exact ⟨rfl, _, Eq.trans (World.drewN_drewN _ _ _) (congrArg (World.drewN _) (Nat.add_assoc _ _ _))⟩))); try go_wp2_with (first | ((with_reducible refine gate_dst (N := 2) rfl ?_); refine box_event ?hg (N := 2) ?hd (cs := #[.int .i64 a0_0, .int .u64 a0_1, .int .u64 a0_2, .int .u64 a0_3, .int .u64 a0_4, .int .u64 a0_5, .int .u64 a0_6]) (t := 27) ?hr ?_; (case hd => rfl); (case hg => rfl); (case hr => first | (go_simp; done) | (go_simp; rfl)); intro gb142 hg w7 hbox hb; have n0_ := Aside0.mk (below_step (by repeat (first | (with_reducible first | exact HB.out | apply below_alloc | apply pw_below_drewN | apply below_drew1) | exact HB.out)) hb); have n1_ := Aside0.mk (hbox); have n2_ := Aside0.mk ((by rw [hg]; exact (below_size (by repeat (first | (with_reducible first | exact HB.out | apply below_alloc | apply pw_below_drewN | apply below_drew1) | exact HB.out))) : w.heap.size ≤ gb142)); have n3_ := Aside0.mk ((by rw [hg]; exact (below_size (by repeat (first | (with_reducible first | exact HB.out | apply below_alloc | apply pw_below_drewN | apply below_drew1) | exact HB.out))) : w.heap.size ≤ gb142)); clear HB; have HB := n0_; have BK142 := n1_; have GW142 := n2_; have GE142 := n3_; clear n0_ n1_ n2_ n3_; clear hb hbox hg) | (go_at_call 8; (with_reducible refine (turnstilelaw05_awake.calls k  true _ A3.out).mono ?_); rintro e w' ⟨rfl, ⟨nd, rfl⟩⟩; (try first | exact ⟨rfl, _, World.drewN_drewN _ _ _⟩ | exact ⟨rfl, _, Eq.trans (World.drewN_drewN _ _ _) (congrArg (World.drewN _) (Nat.add_assoc _ _ _))⟩); have hcz8_0 : w7.cell? ⟨gb142, 0, none⟩ = some (.int .i64 a0_0) := (blk_cell BK142.out 0).trans rfl; have hcz8_1 : w7.cell? ⟨gb142, 1, none⟩ = some (.int .u64 a0_1) := (blk_cell BK142.out 1).trans rfl; have hcz8_2 : w7.cell? ⟨gb142, 2, none⟩ = some (.int .u64 a0_2) := (blk_cell BK142.out 2).trans rfl; have hcz8_3 : w7.cell? ⟨gb142, 3, none⟩ = some (.int .u64 a0_3) := (blk_cell BK142.out 3).trans rfl; have hcz8_4 : w7.cell? ⟨gb142, 4, none⟩ = some (.int .u64 a0_4) := (blk_cell BK142.out 4).trans rfl; have hcz8_5 : w7.cell? ⟨gb142, 5, none⟩ = some (.int .u64 a0_5) := (blk_cell BK142.out 5).trans rfl; have hcz8_6 : w7.cell? ⟨gb142, 6, none⟩ = some (.int .u64 a0_6) := (blk_cell BK142.out 6).trans rfl; have hfz8_0 := blk_frozen BK142.out 0; have hfz8_1 := blk_frozen BK142.out 1; have hfz8_2 := blk_frozen BK142.out 2; have hfz8_3 := blk_frozen BK142.out 3; have hfz8_4 := blk_frozen BK142.out 4; have hfz8_5 := blk_frozen BK142.out 5; have hfz8_6 := blk_frozen BK142.out 6) | (go_at_call 10; (with_reducible refine (window_Retry.calls k a0_1 a0_2 a0_3 a0_4 a0_5 a0_6 t144 _ A5.out).mono ?_); rintro e w' ⟨rfl, ⟨nd, rfl⟩⟩; (try first | exact ⟨rfl, _, World.drewN_drewN _ _ _⟩ | exact ⟨rfl, _, Eq.trans (World.drewN_drewN _ _ _) (congrArg (World.drewN _) (Nat.add_assoc _ _ _))⟩))))
      go_ret
      exact ⟨by first | rfl | (simp [errW_none, errW_some] <;> rfl) | (simp [*, errW_none, errW_some] <;> rfl), by repeat (first | (with_reducible first | exact HB.out | apply below_alloc | apply pw_below_drewN | apply below_drew1 | refine below_set ?_ GE142.out) | exact HB.out)⟩
    · rw [if_neg c6] at H
      have c6b0 : decide (t144 < a0_5) = false := decide_eq_false c6
      clear c6
      replace H := Option.bind_eq_some_iff.mp H
      obtain ⟨t145, A90, H⟩ := H
      replace H : (if t145 = true then (turnstilelaw05_WindowLeast.j0 k a1 t144 false a0_0 a0_1 a0_2 a0_3 a0_4 a0_5 a0_6) else (turnstilelaw05_WindowLeast.j0 k a1 t144 (t144 != 18446744073709551615) a0_0 a0_1 a0_2 a0_3 a0_4 a0_5 a0_6)) = some r := H
      have A9 := Aside0.mk A90
      clear A90
      have HC10 := Aside0.mk H
      clear H
      go_enter Try.func4, Try.ntmps4
      go_upto_region 8 with (first | ((with_reducible refine gate_dst (N := 2) rfl ?_); refine box_event ?hg (N := 2) ?hd (cs := #[.int .i64 a0_0, .int .u64 a0_1, .int .u64 a0_2, .int .u64 a0_3, .int .u64 a0_4, .int .u64 a0_5, .int .u64 a0_6]) (t := 27) ?hr ?_; (case hd => rfl); (case hg => rfl); (case hr => first | (go_simp; done) | (go_simp; rfl)); intro gb142 hg w11 hbox hb; have n0_ := Aside0.mk (below_step (by repeat (first | (with_reducible first | exact HB.out | apply below_alloc | apply pw_below_drewN | apply below_drew1) | exact HB.out)) hb); have n1_ := Aside0.mk (hbox); have n2_ := Aside0.mk ((by rw [hg]; exact (below_size (by repeat (first | (with_reducible first | exact HB.out | apply below_alloc | apply pw_below_drewN | apply below_drew1) | exact HB.out))) : w.heap.size ≤ gb142)); have n3_ := Aside0.mk ((by rw [hg]; exact (below_size (by repeat (first | (with_reducible first | exact HB.out | apply below_alloc | apply pw_below_drewN | apply below_drew1) | exact HB.out))) : w.heap.size ≤ gb142)); clear HB; have HB := n0_; have BK142 := n1_; have GW142 := n2_; have GE142 := n3_; clear n0_ n1_ n2_ n3_; clear hb hbox hg) | (go_at_call 8; (with_reducible refine (turnstilelaw05_awake.calls k  true _ A3.out).mono ?_); rintro e w' ⟨rfl, ⟨nd, rfl⟩⟩; (try first | exact ⟨rfl, _, World.drewN_drewN _ _ _⟩ | exact ⟨rfl, _, Eq.trans (World.drewN_drewN _ _ _) (congrArg (World.drewN _) (Nat.add_assoc _ _ _))⟩); have hcz12_0 : w11.cell? ⟨gb142, 0, none⟩ = some (.int .i64 a0_0) := (blk_cell BK142.out 0).trans rfl; have hcz12_1 : w11.cell? ⟨gb142, 1, none⟩ = some (.int .u64 a0_1) := (blk_cell BK142.out 1).trans rfl; have hcz12_2 : w11.cell? ⟨gb142, 2, none⟩ = some (.int .u64 a0_2) := (blk_cell BK142.out 2).trans rfl; have hcz12_3 : w11.cell? ⟨gb142, 3, none⟩ = some (.int .u64 a0_3) := (blk_cell BK142.out 3).trans rfl; have hcz12_4 : w11.cell? ⟨gb142, 4, none⟩ = some (.int .u64 a0_4) := (blk_cell BK142.out 4).trans rfl; have hcz12_5 : w11.cell? ⟨gb142, 5, none⟩ = some (.int .u64 a0_5) := (blk_cell BK142.out 5).trans rfl; have hcz12_6 : w11.cell? ⟨gb142, 6, none⟩ = some (.int .u64 a0_6) := (blk_cell BK142.out 6).trans rfl; have hfz12_0 := blk_frozen BK142.out 0; have hfz12_1 := blk_frozen BK142.out 1; have hfz12_2 := blk_frozen BK142.out 2; have hfz12_3 := blk_frozen BK142.out 3; have hfz12_4 := blk_frozen BK142.out 4; have hfz12_5 := blk_frozen BK142.out 5; have hfz12_6 := blk_frozen BK142.out 6) | (go_at_call 10; (with_reducible refine (window_Retry.calls k a0_1 a0_2 a0_3 a0_4 a0_5 a0_6 t144 _ A5.out).mono ?_); rintro e w' ⟨rfl, ⟨nd, rfl⟩⟩; (try first | exact ⟨rfl, _, World.drewN_drewN _ _ _⟩ | exact ⟨rfl, _, Eq.trans (World.drewN_drewN _ _ _) (congrArg (World.drewN _) (Nat.add_assoc _ _ _))⟩)) | (go_at_call 11; (with_reducible refine (turnstilelaw05_admits.calls k a0_0 a0_1 a0_2 a0_3 a0_4 a0_5 a0_6 t144 t145 _ A9.out).mono ?_); rintro e w13 ⟨rfl, hb⟩; have n0_ := Aside0.mk (blk_below (g := gb142) (o := .cells #[.int .i64 a0_0, .int .u64 a0_1, .int .u64 a0_2, .int .u64 a0_3, .int .u64 a0_4, .int .u64 a0_5, .int .u64 a0_6] 27 (0, 0)) (by (with_reducible repeat (first | refine blk_drewN ?_ _ | refine blk_drew ?_ | refine blk_alloc ?_ _)); exact BK142.out) hb); have n1_ := Aside0.mk (below_step (by repeat (first | (with_reducible first | exact HB.out | apply below_alloc | apply pw_below_drewN | apply below_drew1 | refine below_set ?_ GE142.out) | exact HB.out)) hb); clear BK142; clear HB; have BK142 := n0_; have HB := n1_; clear n0_ n1_; (try clear hb); (try clear hb2); (try clear hk); (try clear hi)))
      repeat (go_quiet (first | ((with_reducible refine gate_dst (N := 2) rfl ?_); refine box_event ?hg (N := 2) ?hd (cs := #[.int .i64 a0_0, .int .u64 a0_1, .int .u64 a0_2, .int .u64 a0_3, .int .u64 a0_4, .int .u64 a0_5, .int .u64 a0_6]) (t := 27) ?hr ?_; (case hd => rfl); (case hg => rfl); (case hr => first | (go_simp; done) | (go_simp; rfl)); intro gb142 hg w11 hbox hb; have n0_ := Aside0.mk (below_step (by repeat (first | (with_reducible first | exact HB.out | apply below_alloc | apply pw_below_drewN | apply below_drew1) | exact HB.out)) hb); have n1_ := Aside0.mk (hbox); have n2_ := Aside0.mk ((by rw [hg]; exact (below_size (by repeat (first | (with_reducible first | exact HB.out | apply below_alloc | apply pw_below_drewN | apply below_drew1) | exact HB.out))) : w.heap.size ≤ gb142)); have n3_ := Aside0.mk ((by rw [hg]; exact (below_size (by repeat (first | (with_reducible first | exact HB.out | apply below_alloc | apply pw_below_drewN | apply below_drew1) | exact HB.out))) : w.heap.size ≤ gb142)); clear HB; have HB := n0_; have BK142 := n1_; have GW142 := n2_; have GE142 := n3_; clear n0_ n1_ n2_ n3_; clear hb hbox hg) | (go_at_call 8; (with_reducible refine (turnstilelaw05_awake.calls k  true _ A3.out).mono ?_); rintro e w' ⟨rfl, ⟨nd, rfl⟩⟩; (try first | exact ⟨rfl, _, World.drewN_drewN _ _ _⟩ | exact ⟨rfl, _, Eq.trans (World.drewN_drewN _ _ _) (congrArg (World.drewN _) (Nat.add_assoc _ _ _))⟩); have hcz12_0 : w11.cell? ⟨gb142, 0, none⟩ = some (.int .i64 a0_0) := (blk_cell BK142.out 0).trans rfl; have hcz12_1 : w11.cell? ⟨gb142, 1, none⟩ = some (.int .u64 a0_1) := (blk_cell BK142.out 1).trans rfl; have hcz12_2 : w11.cell? ⟨gb142, 2, none⟩ = some (.int .u64 a0_2) := (blk_cell BK142.out 2).trans rfl; have hcz12_3 : w11.cell? ⟨gb142, 3, none⟩ = some (.int .u64 a0_3) := (blk_cell BK142.out 3).trans rfl; have hcz12_4 : w11.cell? ⟨gb142, 4, none⟩ = some (.int .u64 a0_4) := (blk_cell BK142.out 4).trans rfl; have hcz12_5 : w11.cell? ⟨gb142, 5, none⟩ = some (.int .u64 a0_5) := (blk_cell BK142.out 5).trans rfl; have hcz12_6 : w11.cell? ⟨gb142, 6, none⟩ = some (.int .u64 a0_6) := (blk_cell BK142.out 6).trans rfl; have hfz12_0 := blk_frozen BK142.out 0; have hfz12_1 := blk_frozen BK142.out 1; have hfz12_2 := blk_frozen BK142.out 2; have hfz12_3 := blk_frozen BK142.out 3; have hfz12_4 := blk_frozen BK142.out 4; have hfz12_5 := blk_frozen BK142.out 5; have hfz12_6 := blk_frozen BK142.out 6) | (go_at_call 10; (with_reducible refine (window_Retry.calls k a0_1 a0_2 a0_3 a0_4 a0_5 a0_6 t144 _ A5.out).mono ?_); rintro e w' ⟨rfl, ⟨nd, rfl⟩⟩; (try first | exact ⟨rfl, _, World.drewN_drewN _ _ _⟩ | exact ⟨rfl, _, Eq.trans (World.drewN_drewN _ _ _) (congrArg (World.drewN _) (Nat.add_assoc _ _ _))⟩)) | (go_at_call 11; (with_reducible refine (turnstilelaw05_admits.calls k a0_0 a0_1 a0_2 a0_3 a0_4 a0_5 a0_6 t144 t145 _ A9.out).mono ?_); rintro e w13 ⟨rfl, hb⟩; have n0_ := Aside0.mk (blk_below (g := gb142) (o := .cells #[.int .i64 a0_0, .int .u64 a0_1, .int .u64 a0_2, .int .u64 a0_3, .int .u64 a0_4, .int .u64 a0_5, .int .u64 a0_6] 27 (0, 0)) (by (with_reducible repeat (first | refine blk_drewN ?_ _ | refine blk_drew ?_ | refine blk_alloc ?_ _)); exact BK142.out) hb); have n1_ := Aside0.mk (below_step (by repeat (first | (with_reducible first | exact HB.out | apply below_alloc | apply pw_below_drewN | apply below_drew1 | refine below_set ?_ GE142.out) | exact HB.out)) hb); clear BK142; clear HB; have BK142 := n0_; have HB := n1_; clear n0_ n1_; (try clear hb); (try clear hb2); (try clear hk); (try clear hi))); go_upto_region 8 with (first | ((with_reducible refine gate_dst (N := 2) rfl ?_); refine box_event ?hg (N := 2) ?hd (cs := #[.int .i64 a0_0, .int .u64 a0_1, .int .u64 a0_2, .int .u64 a0_3, .int .u64 a0_4, .int .u64 a0_5, .int .u64 a0_6]) (t := 27) ?hr ?_; (case hd => rfl); (case hg => rfl); (case hr => first | (go_simp; done) | (go_simp; rfl)); intro gb142 hg w11 hbox hb; have n0_ := Aside0.mk (below_step (by repeat (first | (with_reducible first | exact HB.out | apply below_alloc | apply pw_below_drewN | apply below_drew1) | exact HB.out)) hb); have n1_ := Aside0.mk (hbox); have n2_ := Aside0.mk ((by rw [hg]; exact (below_size (by repeat (first | (with_reducible first | exact HB.out | apply below_alloc | apply pw_below_drewN | apply below_drew1) | exact HB.out))) : w.heap.size ≤ gb142)); have n3_ := Aside0.mk ((by rw [hg]; exact (below_size (by repeat (first | (with_reducible first | exact HB.out | apply below_alloc | apply pw_below_drewN | apply below_drew1) | exact HB.out))) : w.heap.size ≤ gb142)); clear HB; have HB := n0_; have BK142 := n1_; have GW142 := n2_; have GE142 := n3_; clear n0_ n1_ n2_ n3_; clear hb hbox hg) | (go_at_call 8; (with_reducible refine (turnstilelaw05_awake.calls k  true _ A3.out).mono ?_); rintro e w' ⟨rfl, ⟨nd, rfl⟩⟩; (try first | exact ⟨rfl, _, World.drewN_drewN _ _ _⟩ | exact ⟨rfl, _, Eq.trans (World.drewN_drewN _ _ _) (congrArg (World.drewN _) (Nat.add_assoc _ _ _))⟩); have hcz12_0 : w11.cell? ⟨gb142, 0, none⟩ = some (.int .i64 a0_0) := (blk_cell BK142.out 0).trans rfl; have hcz12_1 : w11.cell? ⟨gb142, 1, none⟩ = some (.int .u64 a0_1) := (blk_cell BK142.out 1).trans rfl; have hcz12_2 : w11.cell? ⟨gb142, 2, none⟩ = some (.int .u64 a0_2) := (blk_cell BK142.out 2).trans rfl; have hcz12_3 : w11.cell? ⟨gb142, 3, none⟩ = some (.int .u64 a0_3) := (blk_cell BK142.out 3).trans rfl; have hcz12_4 : w11.cell? ⟨gb142, 4, none⟩ = some (.int .u64 a0_4) := (blk_cell BK142.out 4).trans rfl; have hcz12_5 : w11.cell? ⟨gb142, 5, none⟩ = some (.int .u64 a0_5) := (blk_cell BK142.out 5).trans rfl; have hcz12_6 : w11.cell? ⟨gb142, 6, none⟩ = some (.int .u64 a0_6) := (blk_cell BK142.out 6).trans rfl; have hfz12_0 := blk_frozen BK142.out 0; have hfz12_1 := blk_frozen BK142.out 1; have hfz12_2 := blk_frozen BK142.out 2; have hfz12_3 := blk_frozen BK142.out 3; have hfz12_4 := blk_frozen BK142.out 4; have hfz12_5 := blk_frozen BK142.out 5; have hfz12_6 := blk_frozen BK142.out 6) | (go_at_call 10; (with_reducible refine (window_Retry.calls k a0_1 a0_2 a0_3 a0_4 a0_5 a0_6 t144 _ A5.out).mono ?_); rintro e w' ⟨rfl, ⟨nd, rfl⟩⟩; (try first | exact ⟨rfl, _, World.drewN_drewN _ _ _⟩ | exact ⟨rfl, _, Eq.trans (World.drewN_drewN _ _ _) (congrArg (World.drewN _) (Nat.add_assoc _ _ _))⟩)) | (go_at_call 11; (with_reducible refine (turnstilelaw05_admits.calls k a0_0 a0_1 a0_2 a0_3 a0_4 a0_5 a0_6 t144 t145 _ A9.out).mono ?_); rintro e w13 ⟨rfl, hb⟩; have n0_ := Aside0.mk (blk_below (g := gb142) (o := .cells #[.int .i64 a0_0, .int .u64 a0_1, .int .u64 a0_2, .int .u64 a0_3, .int .u64 a0_4, .int .u64 a0_5, .int .u64 a0_6] 27 (0, 0)) (by (with_reducible repeat (first | refine blk_drewN ?_ _ | refine blk_drew ?_ | refine blk_alloc ?_ _)); exact BK142.out) hb); have n1_ := Aside0.mk (below_step (by repeat (first | (with_reducible first | exact HB.out | apply below_alloc | apply pw_below_drewN | apply below_drew1 | refine below_set ?_ GE142.out) | exact HB.out)) hb); clear BK142; clear HB; have BK142 := n0_; have HB := n1_; clear n0_ n1_; (try clear hb); (try clear hb2); (try clear hk); (try clear hi))))
      (try simp only [Act.put, List.setIfInBounds_toArray, List.set_cons_zero, List.set_cons_succ])
      go_cut [37] (fun v37 wc => ∃ (kq : Nat) (x37_9 : Bool), v37 = .bool x37_9 ∧ Aside0 (turnstilelaw05_WindowLeast.j0 kq a1 t144 x37_9 a0_0 a0_1 a0_2 a0_3 a0_4 a0_5 a0_6 = some r) ∧ Aside0 (kq ≤ k) ∧ Aside0 (wc.heap[gb142]? = some (.cells #[.int .i64 a0_0, .int .u64 a0_1, .int .u64 a0_2, .int .u64 a0_3, .int .u64 a0_4, .int .u64 a0_5, .int .u64 a0_6] 27 (0, 0))) ∧ Aside0 (Below w.heap.size w wc))
      case first =>
        have H := HC10.out
        clear HC10
        by_cases c14 : t145 = true
        · subst c14
          have H1 : (turnstilelaw05_WindowLeast.j0 k a1 t144 false a0_0 a0_1 a0_2 a0_3 a0_4 a0_5 a0_6) = some r := by rw [if_pos rfl] at H; exact H
          clear H
          have H := H1
          clear H1
          have H' := Aside0.mk H
          clear H
          go_wp2
          repeat (go_quiet (fail); try go_wp2)
          go_meet
          case rel => exact ⟨_, (false), (by first | rfl | (simp; done) | (simp [*]; done)), H', ⟨by first | omega | exact Nat.le_refl _⟩, ⟨by (with_reducible repeat (first | refine blk_drewN ?_ _ | refine blk_drew ?_ | refine blk_alloc ?_ _)); exact BK142.out⟩, ⟨by repeat (first | (with_reducible first | exact HB.out | apply below_alloc | apply pw_below_drewN | apply below_drew1 | refine below_set ?_ GE142.out) | exact HB.out)⟩⟩
        · replace c14 := Bool.eq_false_iff.mpr c14
          subst c14
          have H1 : (turnstilelaw05_WindowLeast.j0 k a1 t144 (t144 != 18446744073709551615) a0_0 a0_1 a0_2 a0_3 a0_4 a0_5 a0_6) = some r := by rw [if_neg (show ¬ (false = true) by decide)] at H; exact H
          clear H
          have H := H1
          clear H1
          have H' := Aside0.mk H
          clear H
          go_wp2
          repeat (go_quiet (fail); try go_wp2)
          go_meet
          case rel => exact ⟨_, ((t144 != 18446744073709551615)), (by first | rfl | (simp; done) | (simp [*]; done)), H', ⟨by first | omega | exact Nat.le_refl _⟩, ⟨by (with_reducible repeat (first | refine blk_drewN ?_ _ | refine blk_drew ?_ | refine blk_alloc ?_ _)); exact BK142.out⟩, ⟨by repeat (first | (with_reducible first | exact HB.out | apply below_alloc | apply pw_below_drewN | apply below_drew1 | refine below_set ?_ GE142.out) | exact HB.out)⟩⟩
      case rest =>
        clear HC10
        try clear c1
        try clear p2
        try clear c4
        try clear c6
        try clear c6b0
        try clear c14
        try clear hcz12_0
        try clear hcz12_1
        try clear hcz12_2
        try clear hcz12_3
        try clear hcz12_4
        try clear hcz12_5
        try clear hcz12_6
        try clear hcz8_0
        try clear hcz8_1
        try clear hcz8_2
        try clear hcz8_3
        try clear hcz8_4
        try clear hcz8_5
        try clear hcz8_6
        try clear hfz12_0
        try clear hfz12_1
        try clear hfz12_2
        try clear hfz12_3
        try clear hfz12_4
        try clear hfz12_5
        try clear hfz12_6
        try clear hfz8_0
        try clear hfz8_1
        try clear hfz8_2
        try clear hfz8_3
        try clear hfz8_4
        try clear hfz8_5
        try clear hfz8_6
        obtain ⟨kq, x37_9, rfl, HA, HJ9, BK142, HB⟩ := hcut
        cases kq with
        | zero => exact absurd HA.out (by simp [turnstilelaw05_WindowLeast.j0])
        | succ kj9 =>
          have H := HA.out
          clear HA
          simp only [turnstilelaw05_WindowLeast.j0] at H
          by_cases c15 : x37_9 = true
          · subst c15
            have H1 : (some false) = some r := by rw [if_pos rfl] at H; exact H
            clear H
            have H := H1
            clear H1
            obtain rfl := Option.some.inj H
            go_wp2
            repeat (go_quiet (fail); try go_wp2)
            go_ret
            exact ⟨by first | rfl | (simp [errW_none, errW_some] <;> rfl) | (simp [*, errW_none, errW_some] <;> rfl), by repeat (first | (with_reducible first | exact HB.out | apply below_alloc | apply pw_below_drewN | apply below_drew1 | refine below_set ?_ GE142.out) | exact HB.out)⟩
          · replace c15 := Bool.eq_false_iff.mpr c15
            subst c15
            have H1 : (if t144 = a0_5 then (some true) else (if (IntKind.u64.wrap (t144 - a0_5)) = 0 then (none) else ((turnstilelaw05_admits.f kj9 a0_0 a0_1 a0_2 a0_3 a0_4 a0_5 a0_6 (IntKind.u64.wrap (t144 - 1))).bind fun t146 => (if t146 = true then (some false) else ((turnstilelaw05_admits.f kj9 a0_0 a0_1 a0_2 a0_3 a0_4 a0_5 a0_6 (IntKind.u64.wrap (a0_5 + (Int.tmod a1 (IntKind.u64.wrap (t144 - a0_5)))))).bind fun t147 => (if t147 = true then (some false) else ((turnstilelaw05_admits.f kj9 a0_0 a0_1 a0_2 a0_3 a0_4 a0_5 a0_6 a0_5).bind fun t148 => (some (!t148))))))))) = some r := by rw [if_neg (show ¬ (false = true) by decide)] at H; exact H
            clear H
            have H := H1
            clear H1
            by_cases c16 : t144 = a0_5
            · rw [if_pos c16] at H
              have c16b0 : (t144 == a0_5) = true := beq_iff_eq.mpr c16
              have c16b1 : (t144 != a0_5) = false := bne_eq_false_iff_eq.mpr c16
              clear c16
              obtain rfl := Option.some.inj H
              have hcz17_0 : wc.cell? ⟨gb142, 0, none⟩ = some (.int .i64 a0_0) := (blk_cell BK142.out 0).trans rfl
              have hcz17_1 : wc.cell? ⟨gb142, 1, none⟩ = some (.int .u64 a0_1) := (blk_cell BK142.out 1).trans rfl
              have hcz17_2 : wc.cell? ⟨gb142, 2, none⟩ = some (.int .u64 a0_2) := (blk_cell BK142.out 2).trans rfl
              have hcz17_3 : wc.cell? ⟨gb142, 3, none⟩ = some (.int .u64 a0_3) := (blk_cell BK142.out 3).trans rfl
              have hcz17_4 : wc.cell? ⟨gb142, 4, none⟩ = some (.int .u64 a0_4) := (blk_cell BK142.out 4).trans rfl
              have hcz17_5 : wc.cell? ⟨gb142, 5, none⟩ = some (.int .u64 a0_5) := (blk_cell BK142.out 5).trans rfl
              have hcz17_6 : wc.cell? ⟨gb142, 6, none⟩ = some (.int .u64 a0_6) := (blk_cell BK142.out 6).trans rfl
              have hfz17_0 := blk_frozen BK142.out 0
              have hfz17_1 := blk_frozen BK142.out 1
              have hfz17_2 := blk_frozen BK142.out 2
              have hfz17_3 := blk_frozen BK142.out 3
              have hfz17_4 := blk_frozen BK142.out 4
              have hfz17_5 := blk_frozen BK142.out 5
              have hfz17_6 := blk_frozen BK142.out 6
              go_wp2
              repeat (go_quiet (fail); try go_wp2)
              go_ret
              exact ⟨by first | rfl | (simp [errW_none, errW_some] <;> rfl) | (simp [*, errW_none, errW_some] <;> rfl), by repeat (first | (with_reducible first | exact HB.out | apply below_alloc | apply pw_below_drewN | apply below_drew1 | refine below_set ?_ GE142.out) | exact HB.out)⟩
            · rw [if_neg c16] at H
              have c16b0 : (t144 == a0_5) = false := beq_eq_false_iff_ne.mpr c16
              have c16b1 : (t144 != a0_5) = true := bne_iff_ne.mpr c16
              by_cases c18 : (IntKind.u64.wrap (t144 - a0_5)) = 0
              · rw [if_pos c18] at H
                exact absurd H (by simp)
              · rw [if_neg c18] at H
                have c18b0 : ((IntKind.u64.wrap (t144 - a0_5)) == 0) = false := beq_eq_false_iff_ne.mpr c18
                have c18b1 : ((IntKind.u64.wrap (t144 - a0_5)) != 0) = true := bne_iff_ne.mpr c18
                replace H := Option.bind_eq_some_iff.mp H
                obtain ⟨t146, A190, H⟩ := H
                replace H : (if t146 = true then (some false) else ((turnstilelaw05_admits.f kj9 a0_0 a0_1 a0_2 a0_3 a0_4 a0_5 a0_6 (IntKind.u64.wrap (a0_5 + (Int.tmod a1 (IntKind.u64.wrap (t144 - a0_5)))))).bind fun t147 => (if t147 = true then (some false) else ((turnstilelaw05_admits.f kj9 a0_0 a0_1 a0_2 a0_3 a0_4 a0_5 a0_6 a0_5).bind fun t148 => (some (!t148)))))) = some r := H
                have A19 := Aside0.mk A190
                clear A190
                by_cases c20 : t146 = true
                · subst c20
                  have H1 : (some false) = some r := by rw [if_pos rfl] at H; exact H
                  clear H
                  have H := H1
                  clear H1
                  obtain rfl := Option.some.inj H
                  have hcz21_0 : wc.cell? ⟨gb142, 0, none⟩ = some (.int .i64 a0_0) := (blk_cell BK142.out 0).trans rfl
                  have hcz21_1 : wc.cell? ⟨gb142, 1, none⟩ = some (.int .u64 a0_1) := (blk_cell BK142.out 1).trans rfl
                  have hcz21_2 : wc.cell? ⟨gb142, 2, none⟩ = some (.int .u64 a0_2) := (blk_cell BK142.out 2).trans rfl
                  have hcz21_3 : wc.cell? ⟨gb142, 3, none⟩ = some (.int .u64 a0_3) := (blk_cell BK142.out 3).trans rfl
                  have hcz21_4 : wc.cell? ⟨gb142, 4, none⟩ = some (.int .u64 a0_4) := (blk_cell BK142.out 4).trans rfl
                  have hcz21_5 : wc.cell? ⟨gb142, 5, none⟩ = some (.int .u64 a0_5) := (blk_cell BK142.out 5).trans rfl
                  have hcz21_6 : wc.cell? ⟨gb142, 6, none⟩ = some (.int .u64 a0_6) := (blk_cell BK142.out 6).trans rfl
                  have hfz21_0 := blk_frozen BK142.out 0
                  have hfz21_1 := blk_frozen BK142.out 1
                  have hfz21_2 := blk_frozen BK142.out 2
                  have hfz21_3 := blk_frozen BK142.out 3
                  have hfz21_4 := blk_frozen BK142.out 4
                  have hfz21_5 := blk_frozen BK142.out 5
                  have hfz21_6 := blk_frozen BK142.out 6
                  go_wp2_with (first | (go_at_call 11; (with_reducible refine (turnstilelaw05_admits.calls kj9 a0_0 a0_1 a0_2 a0_3 a0_4 a0_5 a0_6 (IntKind.u64.wrap (t144 - 1)) true _ A19.out).mono ?_); rintro e w22 ⟨rfl, hb⟩; have n0_ := Aside0.mk (blk_below (g := gb142) (o := .cells #[.int .i64 a0_0, .int .u64 a0_1, .int .u64 a0_2, .int .u64 a0_3, .int .u64 a0_4, .int .u64 a0_5, .int .u64 a0_6] 27 (0, 0)) (by (with_reducible repeat (first | refine blk_drewN ?_ _ | refine blk_drew ?_ | refine blk_alloc ?_ _)); exact BK142.out) hb); have n1_ := Aside0.mk (below_step (by repeat (first | (with_reducible first | exact HB.out | apply below_alloc | apply pw_below_drewN | apply below_drew1 | refine below_set ?_ GE142.out) | exact HB.out)) hb); clear BK142; clear HB; have BK142 := n0_; have HB := n1_; clear n0_ n1_; (try clear hb); (try clear hb2); (try clear hk); (try clear hi)))
                  repeat (go_quiet (first | (go_at_call 11; (with_reducible refine (turnstilelaw05_admits.calls kj9 a0_0 a0_1 a0_2 a0_3 a0_4 a0_5 a0_6 (IntKind.u64.wrap (t144 - 1)) true _ A19.out).mono ?_); rintro e w22 ⟨rfl, hb⟩; have n0_ := Aside0.mk (blk_below (g := gb142) (o := .cells #[.int .i64 a0_0, .int .u64 a0_1, .int .u64 a0_2, .int .u64 a0_3, .int .u64 a0_4, .int .u64 a0_5, .int .u64 a0_6] 27 (0, 0)) (by (with_reducible repeat (first | refine blk_drewN ?_ _ | refine blk_drew ?_ | refine blk_alloc ?_ _)); exact BK142.out) hb); have n1_ := Aside0.mk (below_step (by repeat (first | (with_reducible first | exact HB.out | apply below_alloc | apply pw_below_drewN | apply below_drew1 | refine below_set ?_ GE142.out) | exact HB.out)) hb); clear BK142; clear HB; have BK142 := n0_; have HB := n1_; clear n0_ n1_; (try clear hb); (try clear hb2); (try clear hk); (try clear hi))); try go_wp2_with (first | (go_at_call 11; (with_reducible refine (turnstilelaw05_admits.calls kj9 a0_0 a0_1 a0_2 a0_3 a0_4 a0_5 a0_6 (IntKind.u64.wrap (t144 - 1)) true _ A19.out).mono ?_); rintro e w22 ⟨rfl, hb⟩; have n0_ := Aside0.mk (blk_below (g := gb142) (o := .cells #[.int .i64 a0_0, .int .u64 a0_1, .int .u64 a0_2, .int .u64 a0_3, .int .u64 a0_4, .int .u64 a0_5, .int .u64 a0_6] 27 (0, 0)) (by (with_reducible repeat (first | refine blk_drewN ?_ _ | refine blk_drew ?_ | refine blk_alloc ?_ _)); exact BK142.out) hb); have n1_ := Aside0.mk (below_step (by repeat (first | (with_reducible first | exact HB.out | apply below_alloc | apply pw_below_drewN | apply below_drew1 | refine below_set ?_ GE142.out) | exact HB.out)) hb); clear BK142; clear HB; have BK142 := n0_; have HB := n1_; clear n0_ n1_; (try clear hb); (try clear hb2); (try clear hk); (try clear hi))))
                  go_ret
                  exact ⟨by first | rfl | (simp [errW_none, errW_some] <;> rfl) | (simp [*, errW_none, errW_some] <;> rfl), by repeat (first | (with_reducible first | exact HB.out | apply below_alloc | apply pw_below_drewN | apply below_drew1 | refine below_set ?_ GE142.out) | exact HB.out)⟩
                · replace c20 := Bool.eq_false_iff.mpr c20
                  subst c20
                  have H1 : ((turnstilelaw05_admits.f kj9 a0_0 a0_1 a0_2 a0_3 a0_4 a0_5 a0_6 (IntKind.u64.wrap (a0_5 + (Int.tmod a1 (IntKind.u64.wrap (t144 - a0_5)))))).bind fun t147 => (if t147 = true then (some false) else ((turnstilelaw05_admits.f kj9 a0_0 a0_1 a0_2 a0_3 a0_4 a0_5 a0_6 a0_5).bind fun t148 => (some (!t148))))) = some r := by rw [if_neg (show ¬ (false = true) by decide)] at H; exact H
                  clear H
                  have H := H1
                  clear H1
                  replace H := Option.bind_eq_some_iff.mp H
                  obtain ⟨t147, A230, H⟩ := H
                  replace H : (if t147 = true then (some false) else ((turnstilelaw05_admits.f kj9 a0_0 a0_1 a0_2 a0_3 a0_4 a0_5 a0_6 a0_5).bind fun t148 => (some (!t148)))) = some r := H
                  have A23 := Aside0.mk A230
                  clear A230
                  by_cases c24 : t147 = true
                  · subst c24
                    have H1 : (some false) = some r := by rw [if_pos rfl] at H; exact H
                    clear H
                    have H := H1
                    clear H1
                    obtain rfl := Option.some.inj H
                    have hcz25_0 : wc.cell? ⟨gb142, 0, none⟩ = some (.int .i64 a0_0) := (blk_cell BK142.out 0).trans rfl
                    have hcz25_1 : wc.cell? ⟨gb142, 1, none⟩ = some (.int .u64 a0_1) := (blk_cell BK142.out 1).trans rfl
                    have hcz25_2 : wc.cell? ⟨gb142, 2, none⟩ = some (.int .u64 a0_2) := (blk_cell BK142.out 2).trans rfl
                    have hcz25_3 : wc.cell? ⟨gb142, 3, none⟩ = some (.int .u64 a0_3) := (blk_cell BK142.out 3).trans rfl
                    have hcz25_4 : wc.cell? ⟨gb142, 4, none⟩ = some (.int .u64 a0_4) := (blk_cell BK142.out 4).trans rfl
                    have hcz25_5 : wc.cell? ⟨gb142, 5, none⟩ = some (.int .u64 a0_5) := (blk_cell BK142.out 5).trans rfl
                    have hcz25_6 : wc.cell? ⟨gb142, 6, none⟩ = some (.int .u64 a0_6) := (blk_cell BK142.out 6).trans rfl
                    have hfz25_0 := blk_frozen BK142.out 0
                    have hfz25_1 := blk_frozen BK142.out 1
                    have hfz25_2 := blk_frozen BK142.out 2
                    have hfz25_3 := blk_frozen BK142.out 3
                    have hfz25_4 := blk_frozen BK142.out 4
                    have hfz25_5 := blk_frozen BK142.out 5
                    have hfz25_6 := blk_frozen BK142.out 6
                    go_wp2_with (first | (go_at_call 11; (with_reducible refine (turnstilelaw05_admits.calls kj9 a0_0 a0_1 a0_2 a0_3 a0_4 a0_5 a0_6 (IntKind.u64.wrap (t144 - 1)) false _ A19.out).mono ?_); rintro e w26 ⟨rfl, hb⟩; have n0_ := Aside0.mk (blk_below (g := gb142) (o := .cells #[.int .i64 a0_0, .int .u64 a0_1, .int .u64 a0_2, .int .u64 a0_3, .int .u64 a0_4, .int .u64 a0_5, .int .u64 a0_6] 27 (0, 0)) (by (with_reducible repeat (first | refine blk_drewN ?_ _ | refine blk_drew ?_ | refine blk_alloc ?_ _)); exact BK142.out) hb); have n1_ := Aside0.mk (below_step (by repeat (first | (with_reducible first | exact HB.out | apply below_alloc | apply pw_below_drewN | apply below_drew1 | refine below_set ?_ GE142.out) | exact HB.out)) hb); clear BK142; clear HB; have BK142 := n0_; have HB := n1_; clear n0_ n1_; (try clear hb); (try clear hb2); (try clear hk); (try clear hi); have hcz27_0 : w26.cell? ⟨gb142, 0, none⟩ = some (.int .i64 a0_0) := (blk_cell BK142.out 0).trans rfl; have hcz27_1 : w26.cell? ⟨gb142, 1, none⟩ = some (.int .u64 a0_1) := (blk_cell BK142.out 1).trans rfl; have hcz27_2 : w26.cell? ⟨gb142, 2, none⟩ = some (.int .u64 a0_2) := (blk_cell BK142.out 2).trans rfl; have hcz27_3 : w26.cell? ⟨gb142, 3, none⟩ = some (.int .u64 a0_3) := (blk_cell BK142.out 3).trans rfl; have hcz27_4 : w26.cell? ⟨gb142, 4, none⟩ = some (.int .u64 a0_4) := (blk_cell BK142.out 4).trans rfl; have hcz27_5 : w26.cell? ⟨gb142, 5, none⟩ = some (.int .u64 a0_5) := (blk_cell BK142.out 5).trans rfl; have hcz27_6 : w26.cell? ⟨gb142, 6, none⟩ = some (.int .u64 a0_6) := (blk_cell BK142.out 6).trans rfl; have hfz27_0 := blk_frozen BK142.out 0; have hfz27_1 := blk_frozen BK142.out 1; have hfz27_2 := blk_frozen BK142.out 2; have hfz27_3 := blk_frozen BK142.out 3; have hfz27_4 := blk_frozen BK142.out 4; have hfz27_5 := blk_frozen BK142.out 5; have hfz27_6 := blk_frozen BK142.out 6) | (go_at_call 11; (with_reducible refine (turnstilelaw05_admits.calls kj9 a0_0 a0_1 a0_2 a0_3 a0_4 a0_5 a0_6 (IntKind.u64.wrap (a0_5 + (Int.tmod a1 (IntKind.u64.wrap (t144 - a0_5))))) true _ A23.out).mono ?_); rintro e w28 ⟨rfl, hb⟩; have n0_ := Aside0.mk (blk_below (g := gb142) (o := .cells #[.int .i64 a0_0, .int .u64 a0_1, .int .u64 a0_2, .int .u64 a0_3, .int .u64 a0_4, .int .u64 a0_5, .int .u64 a0_6] 27 (0, 0)) (by (with_reducible repeat (first | refine blk_drewN ?_ _ | refine blk_drew ?_ | refine blk_alloc ?_ _)); exact BK142.out) hb); have n1_ := Aside0.mk (below_step (by repeat (first | (with_reducible first | exact HB.out | apply below_alloc | apply pw_below_drewN | apply below_drew1 | refine below_set ?_ GE142.out) | exact HB.out)) hb); clear BK142; clear HB; have BK142 := n0_; have HB := n1_; clear n0_ n1_; (try clear hb); (try clear hb2); (try clear hk); (try clear hi)))
                    repeat (go_quiet (first | (go_at_call 11; (with_reducible refine (turnstilelaw05_admits.calls kj9 a0_0 a0_1 a0_2 a0_3 a0_4 a0_5 a0_6 (IntKind.u64.wrap (t144 - 1)) false _ A19.out).mono ?_); rintro e w26 ⟨rfl, hb⟩; have n0_ := Aside0.mk (blk_below (g := gb142) (o := .cells #[.int .i64 a0_0, .int .u64 a0_1, .int .u64 a0_2, .int .u64 a0_3, .int .u64 a0_4, .int .u64 a0_5, .int .u64 a0_6] 27 (0, 0)) (by (with_reducible repeat (first | refine blk_drewN ?_ _ | refine blk_drew ?_ | refine blk_alloc ?_ _)); exact BK142.out) hb); have n1_ := Aside0.mk (below_step (by repeat (first | (with_reducible first | exact HB.out | apply below_alloc | apply pw_below_drewN | apply below_drew1 | refine below_set ?_ GE142.out) | exact HB.out)) hb); clear BK142; clear HB; have BK142 := n0_; have HB := n1_; clear n0_ n1_; (try clear hb); (try clear hb2); (try clear hk); (try clear hi); have hcz27_0 : w26.cell? ⟨gb142, 0, none⟩ = some (.int .i64 a0_0) := (blk_cell BK142.out 0).trans rfl; have hcz27_1 : w26.cell? ⟨gb142, 1, none⟩ = some (.int .u64 a0_1) := (blk_cell BK142.out 1).trans rfl; have hcz27_2 : w26.cell? ⟨gb142, 2, none⟩ = some (.int .u64 a0_2) := (blk_cell BK142.out 2).trans rfl; have hcz27_3 : w26.cell? ⟨gb142, 3, none⟩ = some (.int .u64 a0_3) := (blk_cell BK142.out 3).trans rfl; have hcz27_4 : w26.cell? ⟨gb142, 4, none⟩ = some (.int .u64 a0_4) := (blk_cell BK142.out 4).trans rfl; have hcz27_5 : w26.cell? ⟨gb142, 5, none⟩ = some (.int .u64 a0_5) := (blk_cell BK142.out 5).trans rfl; have hcz27_6 : w26.cell? ⟨gb142, 6, none⟩ = some (.int .u64 a0_6) := (blk_cell BK142.out 6).trans rfl; have hfz27_0 := blk_frozen BK142.out 0; have hfz27_1 := blk_frozen BK142.out 1; have hfz27_2 := blk_frozen BK142.out 2; have hfz27_3 := blk_frozen BK142.out 3; have hfz27_4 := blk_frozen BK142.out 4; have hfz27_5 := blk_frozen BK142.out 5; have hfz27_6 := blk_frozen BK142.out 6) | (go_at_call 11; (with_reducible refine (turnstilelaw05_admits.calls kj9 a0_0 a0_1 a0_2 a0_3 a0_4 a0_5 a0_6 (IntKind.u64.wrap (a0_5 + (Int.tmod a1 (IntKind.u64.wrap (t144 - a0_5))))) true _ A23.out).mono ?_); rintro e w28 ⟨rfl, hb⟩; have n0_ := Aside0.mk (blk_below (g := gb142) (o := .cells #[.int .i64 a0_0, .int .u64 a0_1, .int .u64 a0_2, .int .u64 a0_3, .int .u64 a0_4, .int .u64 a0_5, .int .u64 a0_6] 27 (0, 0)) (by (with_reducible repeat (first | refine blk_drewN ?_ _ | refine blk_drew ?_ | refine blk_alloc ?_ _)); exact BK142.out) hb); have n1_ := Aside0.mk (below_step (by repeat (first | (with_reducible first | exact HB.out | apply below_alloc | apply pw_below_drewN | apply below_drew1 | refine below_set ?_ GE142.out) | exact HB.out)) hb); clear BK142; clear HB; have BK142 := n0_; have HB := n1_; clear n0_ n1_; (try clear hb); (try clear hb2); (try clear hk); (try clear hi))); try go_wp2_with (first | (go_at_call 11; (with_reducible refine (turnstilelaw05_admits.calls kj9 a0_0 a0_1 a0_2 a0_3 a0_4 a0_5 a0_6 (IntKind.u64.wrap (t144 - 1)) false _ A19.out).mono ?_); rintro e w26 ⟨rfl, hb⟩; have n0_ := Aside0.mk (blk_below (g := gb142) (o := .cells #[.int .i64 a0_0, .int .u64 a0_1, .int .u64 a0_2, .int .u64 a0_3, .int .u64 a0_4, .int .u64 a0_5, .int .u64 a0_6] 27 (0, 0)) (by (with_reducible repeat (first | refine blk_drewN ?_ _ | refine blk_drew ?_ | refine blk_alloc ?_ _)); exact BK142.out) hb); have n1_ := Aside0.mk (below_step (by repeat (first | (with_reducible first | exact HB.out | apply below_alloc | apply pw_below_drewN | apply below_drew1 | refine below_set ?_ GE142.out) | exact HB.out)) hb); clear BK142; clear HB; have BK142 := n0_; have HB := n1_; clear n0_ n1_; (try clear hb); (try clear hb2); (try clear hk); (try clear hi); have hcz27_0 : w26.cell? ⟨gb142, 0, none⟩ = some (.int .i64 a0_0) := (blk_cell BK142.out 0).trans rfl; have hcz27_1 : w26.cell? ⟨gb142, 1, none⟩ = some (.int .u64 a0_1) := (blk_cell BK142.out 1).trans rfl; have hcz27_2 : w26.cell? ⟨gb142, 2, none⟩ = some (.int .u64 a0_2) := (blk_cell BK142.out 2).trans rfl; have hcz27_3 : w26.cell? ⟨gb142, 3, none⟩ = some (.int .u64 a0_3) := (blk_cell BK142.out 3).trans rfl; have hcz27_4 : w26.cell? ⟨gb142, 4, none⟩ = some (.int .u64 a0_4) := (blk_cell BK142.out 4).trans rfl; have hcz27_5 : w26.cell? ⟨gb142, 5, none⟩ = some (.int .u64 a0_5) := (blk_cell BK142.out 5).trans rfl; have hcz27_6 : w26.cell? ⟨gb142, 6, none⟩ = some (.int .u64 a0_6) := (blk_cell BK142.out 6).trans rfl; have hfz27_0 := blk_frozen BK142.out 0; have hfz27_1 := blk_frozen BK142.out 1; have hfz27_2 := blk_frozen BK142.out 2; have hfz27_3 := blk_frozen BK142.out 3; have hfz27_4 := blk_frozen BK142.out 4; have hfz27_5 := blk_frozen BK142.out 5; have hfz27_6 := blk_frozen BK142.out 6) | (go_at_call 11; (with_reducible refine (turnstilelaw05_admits.calls kj9 a0_0 a0_1 a0_2 a0_3 a0_4 a0_5 a0_6 (IntKind.u64.wrap (a0_5 + (Int.tmod a1 (IntKind.u64.wrap (t144 - a0_5))))) true _ A23.out).mono ?_); rintro e w28 ⟨rfl, hb⟩; have n0_ := Aside0.mk (blk_below (g := gb142) (o := .cells #[.int .i64 a0_0, .int .u64 a0_1, .int .u64 a0_2, .int .u64 a0_3, .int .u64 a0_4, .int .u64 a0_5, .int .u64 a0_6] 27 (0, 0)) (by (with_reducible repeat (first | refine blk_drewN ?_ _ | refine blk_drew ?_ | refine blk_alloc ?_ _)); exact BK142.out) hb); have n1_ := Aside0.mk (below_step (by repeat (first | (with_reducible first | exact HB.out | apply below_alloc | apply pw_below_drewN | apply below_drew1 | refine below_set ?_ GE142.out) | exact HB.out)) hb); clear BK142; clear HB; have BK142 := n0_; have HB := n1_; clear n0_ n1_; (try clear hb); (try clear hb2); (try clear hk); (try clear hi))))
                    go_ret
                    exact ⟨by first | rfl | (simp [errW_none, errW_some] <;> rfl) | (simp [*, errW_none, errW_some] <;> rfl), by repeat (first | (with_reducible first | exact HB.out | apply below_alloc | apply pw_below_drewN | apply below_drew1 | refine below_set ?_ GE142.out) | exact HB.out)⟩
                  · replace c24 := Bool.eq_false_iff.mpr c24
                    subst c24
                    have H1 : ((turnstilelaw05_admits.f kj9 a0_0 a0_1 a0_2 a0_3 a0_4 a0_5 a0_6 a0_5).bind fun t148 => (some (!t148))) = some r := by rw [if_neg (show ¬ (false = true) by decide)] at H; exact H
                    clear H
                    have H := H1
                    clear H1
                    replace H := Option.bind_eq_some_iff.mp H
                    obtain ⟨t148, A290, H⟩ := H
                    replace H : (some (!t148)) = some r := H
                    have A29 := Aside0.mk A290
                    clear A290
                    obtain rfl := Option.some.inj H
                    have hcz30_0 : wc.cell? ⟨gb142, 0, none⟩ = some (.int .i64 a0_0) := (blk_cell BK142.out 0).trans rfl
                    have hcz30_1 : wc.cell? ⟨gb142, 1, none⟩ = some (.int .u64 a0_1) := (blk_cell BK142.out 1).trans rfl
                    have hcz30_2 : wc.cell? ⟨gb142, 2, none⟩ = some (.int .u64 a0_2) := (blk_cell BK142.out 2).trans rfl
                    have hcz30_3 : wc.cell? ⟨gb142, 3, none⟩ = some (.int .u64 a0_3) := (blk_cell BK142.out 3).trans rfl
                    have hcz30_4 : wc.cell? ⟨gb142, 4, none⟩ = some (.int .u64 a0_4) := (blk_cell BK142.out 4).trans rfl
                    have hcz30_5 : wc.cell? ⟨gb142, 5, none⟩ = some (.int .u64 a0_5) := (blk_cell BK142.out 5).trans rfl
                    have hcz30_6 : wc.cell? ⟨gb142, 6, none⟩ = some (.int .u64 a0_6) := (blk_cell BK142.out 6).trans rfl
                    have hfz30_0 := blk_frozen BK142.out 0
                    have hfz30_1 := blk_frozen BK142.out 1
                    have hfz30_2 := blk_frozen BK142.out 2
                    have hfz30_3 := blk_frozen BK142.out 3
                    have hfz30_4 := blk_frozen BK142.out 4
                    have hfz30_5 := blk_frozen BK142.out 5
                    have hfz30_6 := blk_frozen BK142.out 6
                    go_wp2_with (first | (go_at_call 11; (with_reducible refine (turnstilelaw05_admits.calls kj9 a0_0 a0_1 a0_2 a0_3 a0_4 a0_5 a0_6 (IntKind.u64.wrap (t144 - 1)) false _ A19.out).mono ?_); rintro e w31 ⟨rfl, hb⟩; have n0_ := Aside0.mk (blk_below (g := gb142) (o := .cells #[.int .i64 a0_0, .int .u64 a0_1, .int .u64 a0_2, .int .u64 a0_3, .int .u64 a0_4, .int .u64 a0_5, .int .u64 a0_6] 27 (0, 0)) (by (with_reducible repeat (first | refine blk_drewN ?_ _ | refine blk_drew ?_ | refine blk_alloc ?_ _)); exact BK142.out) hb); have n1_ := Aside0.mk (below_step (by repeat (first | (with_reducible first | exact HB.out | apply below_alloc | apply pw_below_drewN | apply below_drew1 | refine below_set ?_ GE142.out) | exact HB.out)) hb); clear BK142; clear HB; have BK142 := n0_; have HB := n1_; clear n0_ n1_; (try clear hb); (try clear hb2); (try clear hk); (try clear hi); have hcz32_0 : w31.cell? ⟨gb142, 0, none⟩ = some (.int .i64 a0_0) := (blk_cell BK142.out 0).trans rfl; have hcz32_1 : w31.cell? ⟨gb142, 1, none⟩ = some (.int .u64 a0_1) := (blk_cell BK142.out 1).trans rfl; have hcz32_2 : w31.cell? ⟨gb142, 2, none⟩ = some (.int .u64 a0_2) := (blk_cell BK142.out 2).trans rfl; have hcz32_3 : w31.cell? ⟨gb142, 3, none⟩ = some (.int .u64 a0_3) := (blk_cell BK142.out 3).trans rfl; have hcz32_4 : w31.cell? ⟨gb142, 4, none⟩ = some (.int .u64 a0_4) := (blk_cell BK142.out 4).trans rfl; have hcz32_5 : w31.cell? ⟨gb142, 5, none⟩ = some (.int .u64 a0_5) := (blk_cell BK142.out 5).trans rfl; have hcz32_6 : w31.cell? ⟨gb142, 6, none⟩ = some (.int .u64 a0_6) := (blk_cell BK142.out 6).trans rfl; have hfz32_0 := blk_frozen BK142.out 0; have hfz32_1 := blk_frozen BK142.out 1; have hfz32_2 := blk_frozen BK142.out 2; have hfz32_3 := blk_frozen BK142.out 3; have hfz32_4 := blk_frozen BK142.out 4; have hfz32_5 := blk_frozen BK142.out 5; have hfz32_6 := blk_frozen BK142.out 6) | (go_at_call 11; (with_reducible refine (turnstilelaw05_admits.calls kj9 a0_0 a0_1 a0_2 a0_3 a0_4 a0_5 a0_6 (IntKind.u64.wrap (a0_5 + (Int.tmod a1 (IntKind.u64.wrap (t144 - a0_5))))) false _ A23.out).mono ?_); rintro e w33 ⟨rfl, hb⟩; have n0_ := Aside0.mk (blk_below (g := gb142) (o := .cells #[.int .i64 a0_0, .int .u64 a0_1, .int .u64 a0_2, .int .u64 a0_3, .int .u64 a0_4, .int .u64 a0_5, .int .u64 a0_6] 27 (0, 0)) (by (with_reducible repeat (first | refine blk_drewN ?_ _ | refine blk_drew ?_ | refine blk_alloc ?_ _)); exact BK142.out) hb); have n1_ := Aside0.mk (below_step (by repeat (first | (with_reducible first | exact HB.out | apply below_alloc | apply pw_below_drewN | apply below_drew1 | refine below_set ?_ GE142.out) | exact HB.out)) hb); clear BK142; clear HB; have BK142 := n0_; have HB := n1_; clear n0_ n1_; (try clear hb); (try clear hb2); (try clear hk); (try clear hi); have hcz34_0 : w33.cell? ⟨gb142, 0, none⟩ = some (.int .i64 a0_0) := (blk_cell BK142.out 0).trans rfl; have hcz34_1 : w33.cell? ⟨gb142, 1, none⟩ = some (.int .u64 a0_1) := (blk_cell BK142.out 1).trans rfl; have hcz34_2 : w33.cell? ⟨gb142, 2, none⟩ = some (.int .u64 a0_2) := (blk_cell BK142.out 2).trans rfl; have hcz34_3 : w33.cell? ⟨gb142, 3, none⟩ = some (.int .u64 a0_3) := (blk_cell BK142.out 3).trans rfl; have hcz34_4 : w33.cell? ⟨gb142, 4, none⟩ = some (.int .u64 a0_4) := (blk_cell BK142.out 4).trans rfl; have hcz34_5 : w33.cell? ⟨gb142, 5, none⟩ = some (.int .u64 a0_5) := (blk_cell BK142.out 5).trans rfl; have hcz34_6 : w33.cell? ⟨gb142, 6, none⟩ = some (.int .u64 a0_6) := (blk_cell BK142.out 6).trans rfl; have hfz34_0 := blk_frozen BK142.out 0; have hfz34_1 := blk_frozen BK142.out 1; have hfz34_2 := blk_frozen BK142.out 2; have hfz34_3 := blk_frozen BK142.out 3; have hfz34_4 := blk_frozen BK142.out 4; have hfz34_5 := blk_frozen BK142.out 5; have hfz34_6 := blk_frozen BK142.out 6) | (go_at_call 11; (with_reducible refine (turnstilelaw05_admits.calls kj9 a0_0 a0_1 a0_2 a0_3 a0_4 a0_5 a0_6 a0_5 t148 _ A29.out).mono ?_); rintro e w35 ⟨rfl, hb⟩; have n0_ := Aside0.mk (blk_below (g := gb142) (o := .cells #[.int .i64 a0_0, .int .u64 a0_1, .int .u64 a0_2, .int .u64 a0_3, .int .u64 a0_4, .int .u64 a0_5, .int .u64 a0_6] 27 (0, 0)) (by (with_reducible repeat (first | refine blk_drewN ?_ _ | refine blk_drew ?_ | refine blk_alloc ?_ _)); exact BK142.out) hb); have n1_ := Aside0.mk (below_step (by repeat (first | (with_reducible first | exact HB.out | apply below_alloc | apply pw_below_drewN | apply below_drew1 | refine below_set ?_ GE142.out) | exact HB.out)) hb); clear BK142; clear HB; have BK142 := n0_; have HB := n1_; clear n0_ n1_; (try clear hb); (try clear hb2); (try clear hk); (try clear hi)))
                    repeat (go_quiet (first | (go_at_call 11; (with_reducible refine (turnstilelaw05_admits.calls kj9 a0_0 a0_1 a0_2 a0_3 a0_4 a0_5 a0_6 (IntKind.u64.wrap (t144 - 1)) false _ A19.out).mono ?_); rintro e w31 ⟨rfl, hb⟩; have n0_ := Aside0.mk (blk_below (g := gb142) (o := .cells #[.int .i64 a0_0, .int .u64 a0_1, .int .u64 a0_2, .int .u64 a0_3, .int .u64 a0_4, .int .u64 a0_5, .int .u64 a0_6] 27 (0, 0)) (by (with_reducible repeat (first | refine blk_drewN ?_ _ | refine blk_drew ?_ | refine blk_alloc ?_ _)); exact BK142.out) hb); have n1_ := Aside0.mk (below_step (by repeat (first | (with_reducible first | exact HB.out | apply below_alloc | apply pw_below_drewN | apply below_drew1 | refine below_set ?_ GE142.out) | exact HB.out)) hb); clear BK142; clear HB; have BK142 := n0_; have HB := n1_; clear n0_ n1_; (try clear hb); (try clear hb2); (try clear hk); (try clear hi); have hcz32_0 : w31.cell? ⟨gb142, 0, none⟩ = some (.int .i64 a0_0) := (blk_cell BK142.out 0).trans rfl; have hcz32_1 : w31.cell? ⟨gb142, 1, none⟩ = some (.int .u64 a0_1) := (blk_cell BK142.out 1).trans rfl; have hcz32_2 : w31.cell? ⟨gb142, 2, none⟩ = some (.int .u64 a0_2) := (blk_cell BK142.out 2).trans rfl; have hcz32_3 : w31.cell? ⟨gb142, 3, none⟩ = some (.int .u64 a0_3) := (blk_cell BK142.out 3).trans rfl; have hcz32_4 : w31.cell? ⟨gb142, 4, none⟩ = some (.int .u64 a0_4) := (blk_cell BK142.out 4).trans rfl; have hcz32_5 : w31.cell? ⟨gb142, 5, none⟩ = some (.int .u64 a0_5) := (blk_cell BK142.out 5).trans rfl; have hcz32_6 : w31.cell? ⟨gb142, 6, none⟩ = some (.int .u64 a0_6) := (blk_cell BK142.out 6).trans rfl; have hfz32_0 := blk_frozen BK142.out 0; have hfz32_1 := blk_frozen BK142.out 1; have hfz32_2 := blk_frozen BK142.out 2; have hfz32_3 := blk_frozen BK142.out 3; have hfz32_4 := blk_frozen BK142.out 4; have hfz32_5 := blk_frozen BK142.out 5; have hfz32_6 := blk_frozen BK142.out 6) | (go_at_call 11; (with_reducible refine (turnstilelaw05_admits.calls kj9 a0_0 a0_1 a0_2 a0_3 a0_4 a0_5 a0_6 (IntKind.u64.wrap (a0_5 + (Int.tmod a1 (IntKind.u64.wrap (t144 - a0_5))))) false _ A23.out).mono ?_); rintro e w33 ⟨rfl, hb⟩; have n0_ := Aside0.mk (blk_below (g := gb142) (o := .cells #[.int .i64 a0_0, .int .u64 a0_1, .int .u64 a0_2, .int .u64 a0_3, .int .u64 a0_4, .int .u64 a0_5, .int .u64 a0_6] 27 (0, 0)) (by (with_reducible repeat (first | refine blk_drewN ?_ _ | refine blk_drew ?_ | refine blk_alloc ?_ _)); exact BK142.out) hb); have n1_ := Aside0.mk (below_step (by repeat (first | (with_reducible first | exact HB.out | apply below_alloc | apply pw_below_drewN | apply below_drew1 | refine below_set ?_ GE142.out) | exact HB.out)) hb); clear BK142; clear HB; have BK142 := n0_; have HB := n1_; clear n0_ n1_; (try clear hb); (try clear hb2); (try clear hk); (try clear hi); have hcz34_0 : w33.cell? ⟨gb142, 0, none⟩ = some (.int .i64 a0_0) := (blk_cell BK142.out 0).trans rfl; have hcz34_1 : w33.cell? ⟨gb142, 1, none⟩ = some (.int .u64 a0_1) := (blk_cell BK142.out 1).trans rfl; have hcz34_2 : w33.cell? ⟨gb142, 2, none⟩ = some (.int .u64 a0_2) := (blk_cell BK142.out 2).trans rfl; have hcz34_3 : w33.cell? ⟨gb142, 3, none⟩ = some (.int .u64 a0_3) := (blk_cell BK142.out 3).trans rfl; have hcz34_4 : w33.cell? ⟨gb142, 4, none⟩ = some (.int .u64 a0_4) := (blk_cell BK142.out 4).trans rfl; have hcz34_5 : w33.cell? ⟨gb142, 5, none⟩ = some (.int .u64 a0_5) := (blk_cell BK142.out 5).trans rfl; have hcz34_6 : w33.cell? ⟨gb142, 6, none⟩ = some (.int .u64 a0_6) := (blk_cell BK142.out 6).trans rfl; have hfz34_0 := blk_frozen BK142.out 0; have hfz34_1 := blk_frozen BK142.out 1; have hfz34_2 := blk_frozen BK142.out 2; have hfz34_3 := blk_frozen BK142.out 3; have hfz34_4 := blk_frozen BK142.out 4; have hfz34_5 := blk_frozen BK142.out 5; have hfz34_6 := blk_frozen BK142.out 6) | (go_at_call 11; (with_reducible refine (turnstilelaw05_admits.calls kj9 a0_0 a0_1 a0_2 a0_3 a0_4 a0_5 a0_6 a0_5 t148 _ A29.out).mono ?_); rintro e w35 ⟨rfl, hb⟩; have n0_ := Aside0.mk (blk_below (g := gb142) (o := .cells #[.int .i64 a0_0, .int .u64 a0_1, .int .u64 a0_2, .int .u64 a0_3, .int .u64 a0_4, .int .u64 a0_5, .int .u64 a0_6] 27 (0, 0)) (by (with_reducible repeat (first | refine blk_drewN ?_ _ | refine blk_drew ?_ | refine blk_alloc ?_ _)); exact BK142.out) hb); have n1_ := Aside0.mk (below_step (by repeat (first | (with_reducible first | exact HB.out | apply below_alloc | apply pw_below_drewN | apply below_drew1 | refine below_set ?_ GE142.out) | exact HB.out)) hb); clear BK142; clear HB; have BK142 := n0_; have HB := n1_; clear n0_ n1_; (try clear hb); (try clear hb2); (try clear hk); (try clear hi))); try go_wp2_with (first | (go_at_call 11; (with_reducible refine (turnstilelaw05_admits.calls kj9 a0_0 a0_1 a0_2 a0_3 a0_4 a0_5 a0_6 (IntKind.u64.wrap (t144 - 1)) false _ A19.out).mono ?_); rintro e w31 ⟨rfl, hb⟩; have n0_ := Aside0.mk (blk_below (g := gb142) (o := .cells #[.int .i64 a0_0, .int .u64 a0_1, .int .u64 a0_2, .int .u64 a0_3, .int .u64 a0_4, .int .u64 a0_5, .int .u64 a0_6] 27 (0, 0)) (by (with_reducible repeat (first | refine blk_drewN ?_ _ | refine blk_drew ?_ | refine blk_alloc ?_ _)); exact BK142.out) hb); have n1_ := Aside0.mk (below_step (by repeat (first | (with_reducible first | exact HB.out | apply below_alloc | apply pw_below_drewN | apply below_drew1 | refine below_set ?_ GE142.out) | exact HB.out)) hb); clear BK142; clear HB; have BK142 := n0_; have HB := n1_; clear n0_ n1_; (try clear hb); (try clear hb2); (try clear hk); (try clear hi); have hcz32_0 : w31.cell? ⟨gb142, 0, none⟩ = some (.int .i64 a0_0) := (blk_cell BK142.out 0).trans rfl; have hcz32_1 : w31.cell? ⟨gb142, 1, none⟩ = some (.int .u64 a0_1) := (blk_cell BK142.out 1).trans rfl; have hcz32_2 : w31.cell? ⟨gb142, 2, none⟩ = some (.int .u64 a0_2) := (blk_cell BK142.out 2).trans rfl; have hcz32_3 : w31.cell? ⟨gb142, 3, none⟩ = some (.int .u64 a0_3) := (blk_cell BK142.out 3).trans rfl; have hcz32_4 : w31.cell? ⟨gb142, 4, none⟩ = some (.int .u64 a0_4) := (blk_cell BK142.out 4).trans rfl; have hcz32_5 : w31.cell? ⟨gb142, 5, none⟩ = some (.int .u64 a0_5) := (blk_cell BK142.out 5).trans rfl; have hcz32_6 : w31.cell? ⟨gb142, 6, none⟩ = some (.int .u64 a0_6) := (blk_cell BK142.out 6).trans rfl; have hfz32_0 := blk_frozen BK142.out 0; have hfz32_1 := blk_frozen BK142.out 1; have hfz32_2 := blk_frozen BK142.out 2; have hfz32_3 := blk_frozen BK142.out 3; have hfz32_4 := blk_frozen BK142.out 4; have hfz32_5 := blk_frozen BK142.out 5; have hfz32_6 := blk_frozen BK142.out 6) | (go_at_call 11; (with_reducible refine (turnstilelaw05_admits.calls kj9 a0_0 a0_1 a0_2 a0_3 a0_4 a0_5 a0_6 (IntKind.u64.wrap (a0_5 + (Int.tmod a1 (IntKind.u64.wrap (t144 - a0_5))))) false _ A23.out).mono ?_); rintro e w33 ⟨rfl, hb⟩; have n0_ := Aside0.mk (blk_below (g := gb142) (o := .cells #[.int .i64 a0_0, .int .u64 a0_1, .int .u64 a0_2, .int .u64 a0_3, .int .u64 a0_4, .int .u64 a0_5, .int .u64 a0_6] 27 (0, 0)) (by (with_reducible repeat (first | refine blk_drewN ?_ _ | refine blk_drew ?_ | refine blk_alloc ?_ _)); exact BK142.out) hb); have n1_ := Aside0.mk (below_step (by repeat (first | (with_reducible first | exact HB.out | apply below_alloc | apply pw_below_drewN | apply below_drew1 | refine below_set ?_ GE142.out) | exact HB.out)) hb); clear BK142; clear HB; have BK142 := n0_; have HB := n1_; clear n0_ n1_; (try clear hb); (try clear hb2); (try clear hk); (try clear hi); have hcz34_0 : w33.cell? ⟨gb142, 0, none⟩ = some (.int .i64 a0_0) := (blk_cell BK142.out 0).trans rfl; have hcz34_1 : w33.cell? ⟨gb142, 1, none⟩ = some (.int .u64 a0_1) := (blk_cell BK142.out 1).trans rfl; have hcz34_2 : w33.cell? ⟨gb142, 2, none⟩ = some (.int .u64 a0_2) := (blk_cell BK142.out 2).trans rfl; have hcz34_3 : w33.cell? ⟨gb142, 3, none⟩ = some (.int .u64 a0_3) := (blk_cell BK142.out 3).trans rfl; have hcz34_4 : w33.cell? ⟨gb142, 4, none⟩ = some (.int .u64 a0_4) := (blk_cell BK142.out 4).trans rfl; have hcz34_5 : w33.cell? ⟨gb142, 5, none⟩ = some (.int .u64 a0_5) := (blk_cell BK142.out 5).trans rfl; have hcz34_6 : w33.cell? ⟨gb142, 6, none⟩ = some (.int .u64 a0_6) := (blk_cell BK142.out 6).trans rfl; have hfz34_0 := blk_frozen BK142.out 0; have hfz34_1 := blk_frozen BK142.out 1; have hfz34_2 := blk_frozen BK142.out 2; have hfz34_3 := blk_frozen BK142.out 3; have hfz34_4 := blk_frozen BK142.out 4; have hfz34_5 := blk_frozen BK142.out 5; have hfz34_6 := blk_frozen BK142.out 6) | (go_at_call 11; (with_reducible refine (turnstilelaw05_admits.calls kj9 a0_0 a0_1 a0_2 a0_3 a0_4 a0_5 a0_6 a0_5 t148 _ A29.out).mono ?_); rintro e w35 ⟨rfl, hb⟩; have n0_ := Aside0.mk (blk_below (g := gb142) (o := .cells #[.int .i64 a0_0, .int .u64 a0_1, .int .u64 a0_2, .int .u64 a0_3, .int .u64 a0_4, .int .u64 a0_5, .int .u64 a0_6] 27 (0, 0)) (by (with_reducible repeat (first | refine blk_drewN ?_ _ | refine blk_drew ?_ | refine blk_alloc ?_ _)); exact BK142.out) hb); have n1_ := Aside0.mk (below_step (by repeat (first | (with_reducible first | exact HB.out | apply below_alloc | apply pw_below_drewN | apply below_drew1 | refine below_set ?_ GE142.out) | exact HB.out)) hb); clear BK142; clear HB; have BK142 := n0_; have HB := n1_; clear n0_ n1_; (try clear hb); (try clear hb2); (try clear hk); (try clear hi))))
                    go_ret
                    exact ⟨by first | rfl | (simp [errW_none, errW_some] <;> rfl) | (simp [*, errW_none, errW_some] <;> rfl), by repeat (first | (with_reducible first | exact HB.out | apply below_alloc | apply pw_below_drewN | apply below_drew1 | refine below_set ?_ GE142.out) | exact HB.out)⟩
  · replace c4 := Bool.eq_false_iff.mpr c4
    subst c4
    have H1 : (some false) = some r := by rw [if_neg (show ¬ (false = true) by decide)] at H; exact H
    clear H
    have H := H1
    clear H1
    obtain rfl := Option.some.inj H
    go_enter Try.func4, Try.ntmps4
    go_wp2_with (first | ((with_reducible refine gate_dst (N := 2) rfl ?_); refine box_event ?hg (N := 2) ?hd (cs := #[.int .i64 a0_0, .int .u64 a0_1, .int .u64 a0_2, .int .u64 a0_3, .int .u64 a0_4, .int .u64 a0_5, .int .u64 a0_6]) (t := 27) ?hr ?_; (case hd => rfl); (case hg => rfl); (case hr => first | (go_simp; done) | (go_simp; rfl)); intro gb142 hg w36 hbox hb; have n0_ := Aside0.mk (below_step (by repeat (first | (with_reducible first | exact HB.out | apply below_alloc | apply pw_below_drewN | apply below_drew1) | exact HB.out)) hb); have n1_ := Aside0.mk (hbox); have n2_ := Aside0.mk ((by rw [hg]; exact (below_size (by repeat (first | (with_reducible first | exact HB.out | apply below_alloc | apply pw_below_drewN | apply below_drew1) | exact HB.out))) : w.heap.size ≤ gb142)); have n3_ := Aside0.mk ((by rw [hg]; exact (below_size (by repeat (first | (with_reducible first | exact HB.out | apply below_alloc | apply pw_below_drewN | apply below_drew1) | exact HB.out))) : w.heap.size ≤ gb142)); clear HB; have HB := n0_; have BK142 := n1_; have GW142 := n2_; have GE142 := n3_; clear n0_ n1_ n2_ n3_; clear hb hbox hg) | (go_at_call 8; (with_reducible refine (turnstilelaw05_awake.calls k  false _ A3.out).mono ?_); rintro e w' ⟨rfl, ⟨nd, rfl⟩⟩; (try first | exact ⟨rfl, _, World.drewN_drewN _ _ _⟩ | exact ⟨rfl, _, Eq.trans (World.drewN_drewN _ _ _) (congrArg (World.drewN _) (Nat.add_assoc _ _ _))⟩)))
    repeat (go_quiet (first | ((with_reducible refine gate_dst (N := 2) rfl ?_); refine box_event ?hg (N := 2) ?hd (cs := #[.int .i64 a0_0, .int .u64 a0_1, .int .u64 a0_2, .int .u64 a0_3, .int .u64 a0_4, .int .u64 a0_5, .int .u64 a0_6]) (t := 27) ?hr ?_; (case hd => rfl); (case hg => rfl); (case hr => first | (go_simp; done) | (go_simp; rfl)); intro gb142 hg w36 hbox hb; have n0_ := Aside0.mk (below_step (by repeat (first | (with_reducible first | exact HB.out | apply below_alloc | apply pw_below_drewN | apply below_drew1) | exact HB.out)) hb); have n1_ := Aside0.mk (hbox); have n2_ := Aside0.mk ((by rw [hg]; exact (below_size (by repeat (first | (with_reducible first | exact HB.out | apply below_alloc | apply pw_below_drewN | apply below_drew1) | exact HB.out))) : w.heap.size ≤ gb142)); have n3_ := Aside0.mk ((by rw [hg]; exact (below_size (by repeat (first | (with_reducible first | exact HB.out | apply below_alloc | apply pw_below_drewN | apply below_drew1) | exact HB.out))) : w.heap.size ≤ gb142)); clear HB; have HB := n0_; have BK142 := n1_; have GW142 := n2_; have GE142 := n3_; clear n0_ n1_ n2_ n3_; clear hb hbox hg) | (go_at_call 8; (with_reducible refine (turnstilelaw05_awake.calls k  false _ A3.out).mono ?_); rintro e w' ⟨rfl, ⟨nd, rfl⟩⟩; (try first | exact ⟨rfl, _, World.drewN_drewN _ _ _⟩ | exact ⟨rfl, _, Eq.trans (World.drewN_drewN _ _ _) (congrArg (World.drewN _) (Nat.add_assoc _ _ _))⟩))); try go_wp2_with (first | ((with_reducible refine gate_dst (N := 2) rfl ?_); refine box_event ?hg (N := 2) ?hd (cs := #[.int .i64 a0_0, .int .u64 a0_1, .int .u64 a0_2, .int .u64 a0_3, .int .u64 a0_4, .int .u64 a0_5, .int .u64 a0_6]) (t := 27) ?hr ?_; (case hd => rfl); (case hg => rfl); (case hr => first | (go_simp; done) | (go_simp; rfl)); intro gb142 hg w36 hbox hb; have n0_ := Aside0.mk (below_step (by repeat (first | (with_reducible first | exact HB.out | apply below_alloc | apply pw_below_drewN | apply below_drew1) | exact HB.out)) hb); have n1_ := Aside0.mk (hbox); have n2_ := Aside0.mk ((by rw [hg]; exact (below_size (by repeat (first | (with_reducible first | exact HB.out | apply below_alloc | apply pw_below_drewN | apply below_drew1) | exact HB.out))) : w.heap.size ≤ gb142)); have n3_ := Aside0.mk ((by rw [hg]; exact (below_size (by repeat (first | (with_reducible first | exact HB.out | apply below_alloc | apply pw_below_drewN | apply below_drew1) | exact HB.out))) : w.heap.size ≤ gb142)); clear HB; have HB := n0_; have BK142 := n1_; have GW142 := n2_; have GE142 := n3_; clear n0_ n1_ n2_ n3_; clear hb hbox hg) | (go_at_call 8; (with_reducible refine (turnstilelaw05_awake.calls k  false _ A3.out).mono ?_); rintro e w' ⟨rfl, ⟨nd, rfl⟩⟩; (try first | exact ⟨rfl, _, World.drewN_drewN _ _ _⟩ | exact ⟨rfl, _, Eq.trans (World.drewN_drewN _ _ _) (congrArg (World.drewN _) (Nat.add_assoc _ _ _))⟩))))
    go_ret
    exact ⟨by first | rfl | (simp [errW_none, errW_some] <;> rfl) | (simp [*, errW_none, errW_some] <;> rfl), by repeat (first | (with_reducible first | exact HB.out | apply below_alloc | apply pw_below_drewN | apply below_drew1 | refine below_set ?_ GE142.out) | exact HB.out)⟩

/-! ### turnstilelaw05_WindowMost: function 5 -/
def turnstilelaw05_WindowMost.j0 : Nat → Int → Int → Int → Int → Bool → Int → Int → Int → Int → Int → Int → Int → Option (Bool)
  | 0, _, _, _, _, _, _, _, _, _, _, _, _ => none
  | k + 1, x1, x6, x7, x8, x9, x150000, x150001, x150002, x150003, x150004, x150005, x150006 => if x6 < 2 then (if x9 = true then (some true) else (if x7 = x150003 then (some (x8 == x150004)) else (some false))) else (if (IntKind.u64.wrap (x6 - 1)) = 0 then (none) else ((window_Admit.f k x150001 x150002 x150003 x150004 x150005 (IntKind.u64.wrap (1 + (Int.tmod x1 (IntKind.u64.wrap (x6 - 1)))))).bind fun bt158 => ((window_Admit.f k x150001 x150002 bt158.1 bt158.2.1 x150005 (IntKind.u64.wrap (x6 - (IntKind.u64.wrap (1 + (Int.tmod x1 (IntKind.u64.wrap (x6 - 1)))))))).bind fun bt161 => (if bt158.2.2 = true then (if bt161.2.2 = true then (if bt161.1 = x7 then (if bt161.2.1 = x8 then ((window_Left.f x150001 x150002 bt158.1 bt158.2.1 x150005).bind fun t164 => (some (t164 == (IntKind.u64.wrap (x6 - (IntKind.u64.wrap (1 + (Int.tmod x1 (IntKind.u64.wrap (x6 - 1)))))))))) else (some false)) else (some false)) else (some false)) else (some false)))))
def turnstilelaw05_WindowMost.f (k : Nat) (a0_0 : Int) (a0_1 : Int) (a0_2 : Int) (a0_3 : Int) (a0_4 : Int) (a0_5 : Int) (a0_6 : Int) (a1 : Int) : Option (Bool) := (turnstilelaw05_awake.f k).bind fun t150 => (if t150 = true then ((window_Left.f a0_1 a0_2 a0_3 a0_4 a0_5).bind fun t151 => ((window_Admit.f k a0_1 a0_2 a0_3 a0_4 a0_5 t151).bind fun bt152 => (if (bt152.2.2 != (decide (t151 > 0))) = true then (some false) else (if t151 < 18446744073709551615 then ((window_Admit.f k a0_1 a0_2 a0_3 a0_4 a0_5 (IntKind.u64.wrap (t151 + 1))).bind fun bt155 => (if bt155.2.2 = true then (some false) else (turnstilelaw05_WindowMost.j0 k a1 t151 bt152.1 bt152.2.1 bt152.2.2 a0_0 a0_1 a0_2 a0_3 a0_4 a0_5 a0_6))) else (turnstilelaw05_WindowMost.j0 k a1 t151 bt152.1 bt152.2.1 bt152.2.2 a0_0 a0_1 a0_2 a0_3 a0_4 a0_5 a0_6))))) else (some false))
theorem turnstilelaw05_WindowMost.mono_l : ∀ k, (∀ y0 y1 y2 y3 y4 y5 y6 y7 y8 y9 y10 y11, LeO (turnstilelaw05_WindowMost.j0 k y0 y1 y2 y3 y4 y5 y6 y7 y8 y9 y10 y11) (turnstilelaw05_WindowMost.j0 (k + 1) y0 y1 y2 y3 y4 y5 y6 y7 y8 y9 y10 y11))
  | 0 => fun _ _ _ _ _ _ _ _ _ _ _ _ r h => by simp [turnstilelaw05_WindowMost.j0] at h
  | k + 1 => by
    have ih0 := turnstilelaw05_WindowMost.mono_l k
    · intro y0 y1 y2 y3 y4 y5 y6 y7 y8 y9 y10 y11
      unfold turnstilelaw05_WindowMost.j0
      repeat' first
      | (with_reducible exact ih0 _ _ _ _ _ _ _ _ _ _ _ _)
      | (with_reducible exact turnstilelaw05_awake.mono _)
      | (with_reducible exact window_Admit.mono _ _ _ _ _ _ _)
      | (with_reducible exact LeO.refl _)
      | (with_reducible exact LeO.none _)
      | (with_reducible refine LeO.ite ?_ ?_)
      | (with_reducible refine LeO.bind ?_ (fun _ => ?_))
      | exact ih0 _ _ _ _ _ _ _ _ _ _ _ _
      | exact turnstilelaw05_awake.mono _
      | exact window_Admit.mono _ _ _ _ _ _ _
      | exact LeO.none _
      | refine LeO.ite ?_ ?_
      | refine LeO.bind ?_ (fun _ => ?_)
theorem turnstilelaw05_WindowMost.mono : ∀ a0 a1 a2 a3 a4 a5 a6 a7 k, LeO (turnstilelaw05_WindowMost.f k a0 a1 a2 a3 a4 a5 a6 a7) (turnstilelaw05_WindowMost.f (k + 1) a0 a1 a2 a3 a4 a5 a6 a7) := by
  intro a0 a1 a2 a3 a4 a5 a6 a7 k
  have ih0 := turnstilelaw05_WindowMost.mono_l k
  unfold turnstilelaw05_WindowMost.f
  repeat' first
      | (with_reducible exact ih0 _ _ _ _ _ _ _ _ _ _ _ _)
      | (with_reducible exact turnstilelaw05_awake.mono _)
      | (with_reducible exact window_Admit.mono _ _ _ _ _ _ _)
      | (with_reducible exact LeO.refl _)
      | (with_reducible exact LeO.none _)
      | (with_reducible refine LeO.ite ?_ ?_)
      | (with_reducible refine LeO.bind ?_ (fun _ => ?_))
      | exact ih0 _ _ _ _ _ _ _ _ _ _ _ _
      | exact turnstilelaw05_awake.mono _
      | exact window_Admit.mono _ _ _ _ _ _ _
      | exact LeO.none _
      | refine LeO.ite ?_ ?_
      | refine LeO.bind ?_ (fun _ => ?_)
set_option maxHeartbeats 8000000 in
set_option maxRecDepth 100000 in
theorem turnstilelaw05_WindowMost.calls (k : Nat) (a0_0 : Int) (a0_1 : Int) (a0_2 : Int) (a0_3 : Int) (a0_4 : Int) (a0_5 : Int) (a0_6 : Int) (a1 : Int) (r : Bool) (w : World) (h : turnstilelaw05_WindowMost.f k a0_0 a0_1 a0_2 a0_3 a0_4 a0_5 a0_6 a1 = some r) :
    Calls Try.prog 5 #[.agg #[.int .i64 a0_0, .int .u64 a0_1, .int .u64 a0_2, .int .u64 a0_3, .int .u64 a0_4, .int .u64 a0_5, .int .u64 a0_6], .int .u64 a1] w fun e w' => e = .returned (.bool r) ∧ Below w.heap.size w w' := by
  have hu27 := Try.underlying27
  have HB := Aside0.mk (Below.refl w.heap.size w)
  have H : ((turnstilelaw05_awake.f k).bind fun t150 => (if t150 = true then ((window_Left.f a0_1 a0_2 a0_3 a0_4 a0_5).bind fun t151 => ((window_Admit.f k a0_1 a0_2 a0_3 a0_4 a0_5 t151).bind fun bt152 => (if (bt152.2.2 != (decide (t151 > 0))) = true then (some false) else (if t151 < 18446744073709551615 then ((window_Admit.f k a0_1 a0_2 a0_3 a0_4 a0_5 (IntKind.u64.wrap (t151 + 1))).bind fun bt155 => (if bt155.2.2 = true then (some false) else (turnstilelaw05_WindowMost.j0 k a1 t151 bt152.1 bt152.2.1 bt152.2.2 a0_0 a0_1 a0_2 a0_3 a0_4 a0_5 a0_6))) else (turnstilelaw05_WindowMost.j0 k a1 t151 bt152.1 bt152.2.1 bt152.2.2 a0_0 a0_1 a0_2 a0_3 a0_4 a0_5 a0_6))))) else (some false))) = some r := h
  clear h
  replace H := Option.bind_eq_some_iff.mp H
  obtain ⟨t150, A30, H⟩ := H
  replace H : (if t150 = true then ((window_Left.f a0_1 a0_2 a0_3 a0_4 a0_5).bind fun t151 => ((window_Admit.f k a0_1 a0_2 a0_3 a0_4 a0_5 t151).bind fun bt152 => (if (bt152.2.2 != (decide (t151 > 0))) = true then (some false) else (if t151 < 18446744073709551615 then ((window_Admit.f k a0_1 a0_2 a0_3 a0_4 a0_5 (IntKind.u64.wrap (t151 + 1))).bind fun bt155 => (if bt155.2.2 = true then (some false) else (turnstilelaw05_WindowMost.j0 k a1 t151 bt152.1 bt152.2.1 bt152.2.2 a0_0 a0_1 a0_2 a0_3 a0_4 a0_5 a0_6))) else (turnstilelaw05_WindowMost.j0 k a1 t151 bt152.1 bt152.2.1 bt152.2.2 a0_0 a0_1 a0_2 a0_3 a0_4 a0_5 a0_6))))) else (some false)) = some r := H
  have A3 := Aside0.mk A30
  clear A30
  by_cases c4 : t150 = true
  · subst c4
    have H1 : ((window_Left.f a0_1 a0_2 a0_3 a0_4 a0_5).bind fun t151 => ((window_Admit.f k a0_1 a0_2 a0_3 a0_4 a0_5 t151).bind fun bt152 => (if (bt152.2.2 != (decide (t151 > 0))) = true then (some false) else (if t151 < 18446744073709551615 then ((window_Admit.f k a0_1 a0_2 a0_3 a0_4 a0_5 (IntKind.u64.wrap (t151 + 1))).bind fun bt155 => (if bt155.2.2 = true then (some false) else (turnstilelaw05_WindowMost.j0 k a1 t151 bt152.1 bt152.2.1 bt152.2.2 a0_0 a0_1 a0_2 a0_3 a0_4 a0_5 a0_6))) else (turnstilelaw05_WindowMost.j0 k a1 t151 bt152.1 bt152.2.1 bt152.2.2 a0_0 a0_1 a0_2 a0_3 a0_4 a0_5 a0_6))))) = some r := by rw [if_pos rfl] at H; exact H
    clear H
    have H := H1
    clear H1
    replace H := Option.bind_eq_some_iff.mp H
    obtain ⟨t151, A50, H⟩ := H
    replace H : ((window_Admit.f k a0_1 a0_2 a0_3 a0_4 a0_5 t151).bind fun bt152 => (if (bt152.2.2 != (decide (t151 > 0))) = true then (some false) else (if t151 < 18446744073709551615 then ((window_Admit.f k a0_1 a0_2 a0_3 a0_4 a0_5 (IntKind.u64.wrap (t151 + 1))).bind fun bt155 => (if bt155.2.2 = true then (some false) else (turnstilelaw05_WindowMost.j0 k a1 t151 bt152.1 bt152.2.1 bt152.2.2 a0_0 a0_1 a0_2 a0_3 a0_4 a0_5 a0_6))) else (turnstilelaw05_WindowMost.j0 k a1 t151 bt152.1 bt152.2.1 bt152.2.2 a0_0 a0_1 a0_2 a0_3 a0_4 a0_5 a0_6)))) = some r := H
    have A5 := Aside0.mk A50
    clear A50
    replace H := Option.bind_eq_some_iff.mp H
    obtain ⟨⟨t152, t153, t154⟩, A60, H⟩ := H
    replace H : (if (t154 != (decide (t151 > 0))) = true then (some false) else (if t151 < 18446744073709551615 then ((window_Admit.f k a0_1 a0_2 a0_3 a0_4 a0_5 (IntKind.u64.wrap (t151 + 1))).bind fun bt155 => (if bt155.2.2 = true then (some false) else (turnstilelaw05_WindowMost.j0 k a1 t151 t152 t153 t154 a0_0 a0_1 a0_2 a0_3 a0_4 a0_5 a0_6))) else (turnstilelaw05_WindowMost.j0 k a1 t151 t152 t153 t154 a0_0 a0_1 a0_2 a0_3 a0_4 a0_5 a0_6))) = some r := H
    have A6 := Aside0.mk A60
    clear A60
    by_cases c7 : (t154 != (decide (t151 > 0))) = true
    · rw [if_pos c7] at H
      have c7b0 : (t154 != (decide (t151 > 0))) = true := c7
      (try (have c7b1 : decide (t154 = (decide (t151 > 0))) = false := by simpa using c7))
      (try (have c7b2 : (t154 == (decide (t151 > 0))) = false := by simpa using c7))
      (try (have c7b3 : ¬ (t154 = (decide (t151 > 0))) := by simpa using c7))
      clear c7
      obtain rfl := Option.some.inj H
      go_enter Try.func5, Try.ntmps5
      go_wp2_with (first | ((with_reducible refine gate_dst (N := 2) rfl ?_); refine box_event ?hg (N := 2) ?hd (cs := #[.int .i64 a0_0, .int .u64 a0_1, .int .u64 a0_2, .int .u64 a0_3, .int .u64 a0_4, .int .u64 a0_5, .int .u64 a0_6]) (t := 27) ?hr ?_; (case hd => rfl); (case hg => rfl); (case hr => first | (go_simp; done) | (go_simp; rfl)); intro gb149 hg w8 hbox hb; have n0_ := Aside0.mk (below_step (by repeat (first | (with_reducible first | exact HB.out | apply below_alloc | apply pw_below_drewN | apply below_drew1) | exact HB.out)) hb); have n1_ := Aside0.mk (hbox); have n2_ := Aside0.mk ((by rw [hg]; exact (below_size (by repeat (first | (with_reducible first | exact HB.out | apply below_alloc | apply pw_below_drewN | apply below_drew1) | exact HB.out))) : w.heap.size ≤ gb149)); have n3_ := Aside0.mk ((by rw [hg]; exact (below_size (by repeat (first | (with_reducible first | exact HB.out | apply below_alloc | apply pw_below_drewN | apply below_drew1) | exact HB.out))) : w.heap.size ≤ gb149)); clear HB; have HB := n0_; have BK149 := n1_; have GW149 := n2_; have GE149 := n3_; clear n0_ n1_ n2_ n3_; clear hb hbox hg) | ((with_reducible refine gate_callee (f := 8) rfl ?_); refine goesL_ (some 20) rfl rfl Try.func8 (by kernel_rfl) rfl #[] rfl (by (try simp only [List.map_toArray, List.map_cons, List.map_nil]); first | done | rfl | (simp only [List.length_drop, List.length_take]; rfl)) ?_; (with_reducible refine (turnstilelaw05_awake.calls k  true _ A3.out).mono ?_); rintro e w' ⟨rfl, ⟨nd, rfl⟩⟩; refine ⟨_, rfl, ?_⟩; have hcz9_0 : w8.cell? ⟨gb149, 0, none⟩ = some (.int .i64 a0_0) := (blk_cell BK149.out 0).trans rfl; have hcz9_1 : w8.cell? ⟨gb149, 1, none⟩ = some (.int .u64 a0_1) := (blk_cell BK149.out 1).trans rfl; have hcz9_2 : w8.cell? ⟨gb149, 2, none⟩ = some (.int .u64 a0_2) := (blk_cell BK149.out 2).trans rfl; have hcz9_3 : w8.cell? ⟨gb149, 3, none⟩ = some (.int .u64 a0_3) := (blk_cell BK149.out 3).trans rfl; have hcz9_4 : w8.cell? ⟨gb149, 4, none⟩ = some (.int .u64 a0_4) := (blk_cell BK149.out 4).trans rfl; have hcz9_5 : w8.cell? ⟨gb149, 5, none⟩ = some (.int .u64 a0_5) := (blk_cell BK149.out 5).trans rfl; have hcz9_6 : w8.cell? ⟨gb149, 6, none⟩ = some (.int .u64 a0_6) := (blk_cell BK149.out 6).trans rfl; have hfz9_0 := blk_frozen BK149.out 0; have hfz9_1 := blk_frozen BK149.out 1; have hfz9_2 := blk_frozen BK149.out 2; have hfz9_3 := blk_frozen BK149.out 3; have hfz9_4 := blk_frozen BK149.out 4; have hfz9_5 := blk_frozen BK149.out 5; have hfz9_6 := blk_frozen BK149.out 6) | ((with_reducible refine gate_callee (f := 12) rfl ?_); refine goesL_ (some 33) rfl rfl Try.func12 (by kernel_rfl) rfl #[.int .u64 a0_1, .int .u64 a0_2, .int .u64 a0_3, .int .u64 a0_4, .int .u64 a0_5] rfl (by (try simp only [List.map_toArray, List.map_cons, List.map_nil]); first | done | rfl | (simp only [List.length_drop, List.length_take]; rfl)) ?_; (with_reducible refine (window_Left.calls a0_1 a0_2 a0_3 a0_4 a0_5 t151 _ A5.out).mono ?_); rintro e w' ⟨rfl, ⟨nd, rfl⟩⟩; refine ⟨_, rfl, ?_⟩) | ((with_reducible refine gate_callee (f := 13) rfl ?_); refine goesL_ (some 46) rfl rfl Try.func13 (by kernel_rfl) rfl #[.int .u64 a0_1, .int .u64 a0_2, .int .u64 a0_3, .int .u64 a0_4, .int .u64 a0_5, .int .u64 t151] rfl (by (try simp only [List.map_toArray, List.map_cons, List.map_nil]); first | done | rfl | (simp only [List.length_drop, List.length_take]; rfl)) ?_; (with_reducible refine (window_Admit.calls k a0_1 a0_2 a0_3 a0_4 a0_5 t151 t152 t153 t154 _ A6.out).mono ?_); rintro e w' ⟨rfl, ⟨nd, rfl⟩⟩; refine ⟨_, rfl, ?_⟩))
      go_ret
      exact ⟨by first | rfl | (simp [errW_none, errW_some] <;> rfl) | (simp [*, errW_none, errW_some] <;> rfl), by repeat (first | (with_reducible first | exact HB.out | apply below_alloc | apply pw_below_drewN | apply below_drew1 | refine below_set ?_ GE149.out) | exact HB.out)⟩
    · rw [if_neg c7] at H
      have c7b0 : (t154 != (decide (t151 > 0))) = false := by simpa using c7
      (try (have c7b1 : decide (t154 = (decide (t151 > 0))) = true := by simpa using c7))
      (try (have c7b2 : (t154 == (decide (t151 > 0))) = true := by simpa using c7))
      clear c7
      have HC10 := Aside0.mk H
      clear H
      go_enter Try.func5, Try.ntmps5
      go_upto_if 55 with (first | ((with_reducible refine gate_dst (N := 2) rfl ?_); refine box_event ?hg (N := 2) ?hd (cs := #[.int .i64 a0_0, .int .u64 a0_1, .int .u64 a0_2, .int .u64 a0_3, .int .u64 a0_4, .int .u64 a0_5, .int .u64 a0_6]) (t := 27) ?hr ?_; (case hd => rfl); (case hg => rfl); (case hr => first | (go_simp; done) | (go_simp; rfl)); intro gb149 hg w11 hbox hb; have n0_ := Aside0.mk (below_step (by repeat (first | (with_reducible first | exact HB.out | apply below_alloc | apply pw_below_drewN | apply below_drew1) | exact HB.out)) hb); have n1_ := Aside0.mk (hbox); have n2_ := Aside0.mk ((by rw [hg]; exact (below_size (by repeat (first | (with_reducible first | exact HB.out | apply below_alloc | apply pw_below_drewN | apply below_drew1) | exact HB.out))) : w.heap.size ≤ gb149)); have n3_ := Aside0.mk ((by rw [hg]; exact (below_size (by repeat (first | (with_reducible first | exact HB.out | apply below_alloc | apply pw_below_drewN | apply below_drew1) | exact HB.out))) : w.heap.size ≤ gb149)); clear HB; have HB := n0_; have BK149 := n1_; have GW149 := n2_; have GE149 := n3_; clear n0_ n1_ n2_ n3_; clear hb hbox hg) | ((with_reducible refine gate_callee (f := 8) rfl ?_); refine goesL_ (some 20) rfl rfl Try.func8 (by kernel_rfl) rfl #[] rfl (by (try simp only [List.map_toArray, List.map_cons, List.map_nil]); first | done | rfl | (simp only [List.length_drop, List.length_take]; rfl)) ?_; (with_reducible refine (turnstilelaw05_awake.calls k  true _ A3.out).mono ?_); rintro e w' ⟨rfl, ⟨nd, rfl⟩⟩; refine ⟨_, rfl, ?_⟩; have hcz12_0 : w11.cell? ⟨gb149, 0, none⟩ = some (.int .i64 a0_0) := (blk_cell BK149.out 0).trans rfl; have hcz12_1 : w11.cell? ⟨gb149, 1, none⟩ = some (.int .u64 a0_1) := (blk_cell BK149.out 1).trans rfl; have hcz12_2 : w11.cell? ⟨gb149, 2, none⟩ = some (.int .u64 a0_2) := (blk_cell BK149.out 2).trans rfl; have hcz12_3 : w11.cell? ⟨gb149, 3, none⟩ = some (.int .u64 a0_3) := (blk_cell BK149.out 3).trans rfl; have hcz12_4 : w11.cell? ⟨gb149, 4, none⟩ = some (.int .u64 a0_4) := (blk_cell BK149.out 4).trans rfl; have hcz12_5 : w11.cell? ⟨gb149, 5, none⟩ = some (.int .u64 a0_5) := (blk_cell BK149.out 5).trans rfl; have hcz12_6 : w11.cell? ⟨gb149, 6, none⟩ = some (.int .u64 a0_6) := (blk_cell BK149.out 6).trans rfl; have hfz12_0 := blk_frozen BK149.out 0; have hfz12_1 := blk_frozen BK149.out 1; have hfz12_2 := blk_frozen BK149.out 2; have hfz12_3 := blk_frozen BK149.out 3; have hfz12_4 := blk_frozen BK149.out 4; have hfz12_5 := blk_frozen BK149.out 5; have hfz12_6 := blk_frozen BK149.out 6) | ((with_reducible refine gate_callee (f := 12) rfl ?_); refine goesL_ (some 33) rfl rfl Try.func12 (by kernel_rfl) rfl #[.int .u64 a0_1, .int .u64 a0_2, .int .u64 a0_3, .int .u64 a0_4, .int .u64 a0_5] rfl (by (try simp only [List.map_toArray, List.map_cons, List.map_nil]); first | done | rfl | (simp only [List.length_drop, List.length_take]; rfl)) ?_; (with_reducible refine (window_Left.calls a0_1 a0_2 a0_3 a0_4 a0_5 t151 _ A5.out).mono ?_); rintro e w' ⟨rfl, ⟨nd, rfl⟩⟩; refine ⟨_, rfl, ?_⟩) | ((with_reducible refine gate_callee (f := 13) rfl ?_); refine goesL_ (some 46) rfl rfl Try.func13 (by kernel_rfl) rfl #[.int .u64 a0_1, .int .u64 a0_2, .int .u64 a0_3, .int .u64 a0_4, .int .u64 a0_5, .int .u64 t151] rfl (by (try simp only [List.map_toArray, List.map_cons, List.map_nil]); first | done | rfl | (simp only [List.length_drop, List.length_take]; rfl)) ?_; (with_reducible refine (window_Admit.calls k a0_1 a0_2 a0_3 a0_4 a0_5 t151 t152 t153 t154 _ A6.out).mono ?_); rintro e w' ⟨rfl, ⟨nd, rfl⟩⟩; refine ⟨_, rfl, ?_⟩))
      (try simp only [Act.put, List.setIfInBounds_toArray, List.set_cons_zero, List.set_cons_succ])
      go_cut [] (fun wc => ∃ (kq : Nat), Aside0 (turnstilelaw05_WindowMost.j0 kq a1 t151 t152 t153 t154 a0_0 a0_1 a0_2 a0_3 a0_4 a0_5 a0_6 = some r) ∧ Aside0 (kq ≤ k) ∧ Aside0 (wc.heap[gb149]? = some (.cells #[.int .i64 a0_0, .int .u64 a0_1, .int .u64 a0_2, .int .u64 a0_3, .int .u64 a0_4, .int .u64 a0_5, .int .u64 a0_6] 27 (0, 0))) ∧ Aside0 (Below w.heap.size w wc))
      case first =>
        have H := HC10.out
        clear HC10
        by_cases c13 : t151 < 18446744073709551615
        · rw [if_pos c13] at H
          have c13b0 : decide (t151 < 18446744073709551615) = true := decide_eq_true c13
          clear c13
          (first | rw [c13b0] | (simp only [i64_w, i32_w]; rw [c13b0]) | skip)
          replace H := Option.bind_eq_some_iff.mp H
          obtain ⟨⟨t155, t156, t157⟩, A140, H⟩ := H
          replace H : (if t157 = true then (some false) else (turnstilelaw05_WindowMost.j0 k a1 t151 t152 t153 t154 a0_0 a0_1 a0_2 a0_3 a0_4 a0_5 a0_6)) = some r := H
          have A14 := Aside0.mk A140
          clear A140
          by_cases c15 : t157 = true
          · subst c15
            have H1 : (some false) = some r := by rw [if_pos rfl] at H; exact H
            clear H
            have H := H1
            clear H1
            obtain rfl := Option.some.inj H
            have hcz16_0 : w11.cell? ⟨gb149, 0, none⟩ = some (.int .i64 a0_0) := (blk_cell BK149.out 0).trans rfl
            have hcz16_1 : w11.cell? ⟨gb149, 1, none⟩ = some (.int .u64 a0_1) := (blk_cell BK149.out 1).trans rfl
            have hcz16_2 : w11.cell? ⟨gb149, 2, none⟩ = some (.int .u64 a0_2) := (blk_cell BK149.out 2).trans rfl
            have hcz16_3 : w11.cell? ⟨gb149, 3, none⟩ = some (.int .u64 a0_3) := (blk_cell BK149.out 3).trans rfl
            have hcz16_4 : w11.cell? ⟨gb149, 4, none⟩ = some (.int .u64 a0_4) := (blk_cell BK149.out 4).trans rfl
            have hcz16_5 : w11.cell? ⟨gb149, 5, none⟩ = some (.int .u64 a0_5) := (blk_cell BK149.out 5).trans rfl
            have hcz16_6 : w11.cell? ⟨gb149, 6, none⟩ = some (.int .u64 a0_6) := (blk_cell BK149.out 6).trans rfl
            have hfz16_0 := blk_frozen BK149.out 0
            have hfz16_1 := blk_frozen BK149.out 1
            have hfz16_2 := blk_frozen BK149.out 2
            have hfz16_3 := blk_frozen BK149.out 3
            have hfz16_4 := blk_frozen BK149.out 4
            have hfz16_5 := blk_frozen BK149.out 5
            have hfz16_6 := blk_frozen BK149.out 6
            go_wp2_with (first | ((with_reducible refine gate_callee (f := 13) rfl ?_); refine goesL_ (some 69) rfl rfl Try.func13 (by kernel_rfl) rfl #[.int .u64 a0_1, .int .u64 a0_2, .int .u64 a0_3, .int .u64 a0_4, .int .u64 a0_5, .int .u64 (IntKind.u64.wrap (t151 + 1))] rfl (by (try simp only [List.map_toArray, List.map_cons, List.map_nil]); first | done | rfl | (simp only [List.length_drop, List.length_take]; rfl)) ?_; (with_reducible refine (window_Admit.calls k a0_1 a0_2 a0_3 a0_4 a0_5 (IntKind.u64.wrap (t151 + 1)) t155 t156 true _ A14.out).mono ?_); rintro e w' ⟨rfl, ⟨nd, rfl⟩⟩; refine ⟨_, rfl, ?_⟩))
            go_ret
            exact ⟨by first | rfl | (simp [errW_none, errW_some] <;> rfl) | (simp [*, errW_none, errW_some] <;> rfl), by repeat (first | (with_reducible first | exact HB.out | apply below_alloc | apply pw_below_drewN | apply below_drew1 | refine below_set ?_ GE149.out) | exact HB.out)⟩
          · replace c15 := Bool.eq_false_iff.mpr c15
            subst c15
            have H1 : (turnstilelaw05_WindowMost.j0 k a1 t151 t152 t153 t154 a0_0 a0_1 a0_2 a0_3 a0_4 a0_5 a0_6) = some r := by rw [if_neg (show ¬ (false = true) by decide)] at H; exact H
            clear H
            have H := H1
            clear H1
            have H' := Aside0.mk H
            clear H
            have hcz17_0 : w11.cell? ⟨gb149, 0, none⟩ = some (.int .i64 a0_0) := (blk_cell BK149.out 0).trans rfl
            have hcz17_1 : w11.cell? ⟨gb149, 1, none⟩ = some (.int .u64 a0_1) := (blk_cell BK149.out 1).trans rfl
            have hcz17_2 : w11.cell? ⟨gb149, 2, none⟩ = some (.int .u64 a0_2) := (blk_cell BK149.out 2).trans rfl
            have hcz17_3 : w11.cell? ⟨gb149, 3, none⟩ = some (.int .u64 a0_3) := (blk_cell BK149.out 3).trans rfl
            have hcz17_4 : w11.cell? ⟨gb149, 4, none⟩ = some (.int .u64 a0_4) := (blk_cell BK149.out 4).trans rfl
            have hcz17_5 : w11.cell? ⟨gb149, 5, none⟩ = some (.int .u64 a0_5) := (blk_cell BK149.out 5).trans rfl
            have hcz17_6 : w11.cell? ⟨gb149, 6, none⟩ = some (.int .u64 a0_6) := (blk_cell BK149.out 6).trans rfl
            have hfz17_0 := blk_frozen BK149.out 0
            have hfz17_1 := blk_frozen BK149.out 1
            have hfz17_2 := blk_frozen BK149.out 2
            have hfz17_3 := blk_frozen BK149.out 3
            have hfz17_4 := blk_frozen BK149.out 4
            have hfz17_5 := blk_frozen BK149.out 5
            have hfz17_6 := blk_frozen BK149.out 6
            go_wp2_with (first | ((with_reducible refine gate_callee (f := 13) rfl ?_); refine goesL_ (some 69) rfl rfl Try.func13 (by kernel_rfl) rfl #[.int .u64 a0_1, .int .u64 a0_2, .int .u64 a0_3, .int .u64 a0_4, .int .u64 a0_5, .int .u64 (IntKind.u64.wrap (t151 + 1))] rfl (by (try simp only [List.map_toArray, List.map_cons, List.map_nil]); first | done | rfl | (simp only [List.length_drop, List.length_take]; rfl)) ?_; (with_reducible refine (window_Admit.calls k a0_1 a0_2 a0_3 a0_4 a0_5 (IntKind.u64.wrap (t151 + 1)) t155 t156 false _ A14.out).mono ?_); rintro e w' ⟨rfl, ⟨nd, rfl⟩⟩; refine ⟨_, rfl, ?_⟩))
            go_meet
            case rel => exact ⟨_, H', ⟨by first | omega | exact Nat.le_refl _⟩, ⟨by (with_reducible repeat (first | refine blk_drewN ?_ _ | refine blk_drew ?_ | refine blk_alloc ?_ _)); exact BK149.out⟩, ⟨by repeat (first | (with_reducible first | exact HB.out | apply below_alloc | apply pw_below_drewN | apply below_drew1 | refine below_set ?_ GE149.out) | exact HB.out)⟩⟩
        · rw [if_neg c13] at H
          have c13b0 : decide (t151 < 18446744073709551615) = false := decide_eq_false c13
          clear c13
          (first | rw [c13b0] | (simp only [i64_w, i32_w]; rw [c13b0]) | skip)
          have H' := Aside0.mk H
          clear H
          go_wp2
          go_meet
          case rel => exact ⟨_, H', ⟨by first | omega | exact Nat.le_refl _⟩, ⟨by (with_reducible repeat (first | refine blk_drewN ?_ _ | refine blk_drew ?_ | refine blk_alloc ?_ _)); exact BK149.out⟩, ⟨by repeat (first | (with_reducible first | exact HB.out | apply below_alloc | apply pw_below_drewN | apply below_drew1 | refine below_set ?_ GE149.out) | exact HB.out)⟩⟩
      case rest =>
        clear HC10
        try clear c1
        try clear p2
        try clear c4
        try clear c5
        try clear c7
        try clear c7b0
        try clear c7b1
        try clear c7b2
        try clear c8
        try clear c12
        try clear c13
        try clear c13b0
        try clear c15
        try clear hcz12_0
        try clear hcz12_1
        try clear hcz12_2
        try clear hcz12_3
        try clear hcz12_4
        try clear hcz12_5
        try clear hcz12_6
        try clear hcz16_0
        try clear hcz16_1
        try clear hcz16_2
        try clear hcz16_3
        try clear hcz16_4
        try clear hcz16_5
        try clear hcz16_6
        try clear hcz17_0
        try clear hcz17_1
        try clear hcz17_2
        try clear hcz17_3
        try clear hcz17_4
        try clear hcz17_5
        try clear hcz17_6
        try clear hcz9_0
        try clear hcz9_1
        try clear hcz9_2
        try clear hcz9_3
        try clear hcz9_4
        try clear hcz9_5
        try clear hcz9_6
        try clear hfz12_0
        try clear hfz12_1
        try clear hfz12_2
        try clear hfz12_3
        try clear hfz12_4
        try clear hfz12_5
        try clear hfz12_6
        try clear hfz16_0
        try clear hfz16_1
        try clear hfz16_2
        try clear hfz16_3
        try clear hfz16_4
        try clear hfz16_5
        try clear hfz16_6
        try clear hfz17_0
        try clear hfz17_1
        try clear hfz17_2
        try clear hfz17_3
        try clear hfz17_4
        try clear hfz17_5
        try clear hfz17_6
        try clear hfz9_0
        try clear hfz9_1
        try clear hfz9_2
        try clear hfz9_3
        try clear hfz9_4
        try clear hfz9_5
        try clear hfz9_6
        obtain ⟨kq, HA, HJ9, BK149, HB⟩ := hcut
        cases kq with
        | zero => exact absurd HA.out (by simp [turnstilelaw05_WindowMost.j0])
        | succ kj9 =>
          have H := HA.out
          clear HA
          simp only [turnstilelaw05_WindowMost.j0] at H
          by_cases c18 : t151 < 2
          · rw [if_pos c18] at H
            have c18b0 : decide (t151 < 2) = true := decide_eq_true c18
            clear c18
            by_cases c19 : t154 = true
            · subst c19
              have H1 : (some true) = some r := by rw [if_pos rfl] at H; exact H
              clear H
              have H := H1
              clear H1
              obtain rfl := Option.some.inj H
              go_wp2
              go_ret
              exact ⟨by first | rfl | (simp [errW_none, errW_some] <;> rfl) | (simp [*, errW_none, errW_some] <;> rfl), by repeat (first | (with_reducible first | exact HB.out | apply below_alloc | apply pw_below_drewN | apply below_drew1 | refine below_set ?_ GE149.out) | exact HB.out)⟩
            · replace c19 := Bool.eq_false_iff.mpr c19
              subst c19
              have H1 : (if t152 = a0_3 then (some (t153 == a0_4)) else (some false)) = some r := by rw [if_neg (show ¬ (false = true) by decide)] at H; exact H
              clear H
              have H := H1
              clear H1
              by_cases c20 : t152 = a0_3
              · rw [if_pos c20] at H
                have c20b0 : (t152 == a0_3) = true := beq_iff_eq.mpr c20
                have c20b1 : (t152 != a0_3) = false := bne_eq_false_iff_eq.mpr c20
                clear c20
                obtain rfl := Option.some.inj H
                have hcz21_0 : wc.cell? ⟨gb149, 0, none⟩ = some (.int .i64 a0_0) := (blk_cell BK149.out 0).trans rfl
                have hcz21_1 : wc.cell? ⟨gb149, 1, none⟩ = some (.int .u64 a0_1) := (blk_cell BK149.out 1).trans rfl
                have hcz21_2 : wc.cell? ⟨gb149, 2, none⟩ = some (.int .u64 a0_2) := (blk_cell BK149.out 2).trans rfl
                have hcz21_3 : wc.cell? ⟨gb149, 3, none⟩ = some (.int .u64 a0_3) := (blk_cell BK149.out 3).trans rfl
                have hcz21_4 : wc.cell? ⟨gb149, 4, none⟩ = some (.int .u64 a0_4) := (blk_cell BK149.out 4).trans rfl
                have hcz21_5 : wc.cell? ⟨gb149, 5, none⟩ = some (.int .u64 a0_5) := (blk_cell BK149.out 5).trans rfl
                have hcz21_6 : wc.cell? ⟨gb149, 6, none⟩ = some (.int .u64 a0_6) := (blk_cell BK149.out 6).trans rfl
                have hfz21_0 := blk_frozen BK149.out 0
                have hfz21_1 := blk_frozen BK149.out 1
                have hfz21_2 := blk_frozen BK149.out 2
                have hfz21_3 := blk_frozen BK149.out 3
                have hfz21_4 := blk_frozen BK149.out 4
                have hfz21_5 := blk_frozen BK149.out 5
                have hfz21_6 := blk_frozen BK149.out 6
                go_wp2
                go_ret
                exact ⟨by first | rfl | (simp [errW_none, errW_some] <;> rfl) | (simp [*, errW_none, errW_some] <;> rfl), by repeat (first | (with_reducible first | exact HB.out | apply below_alloc | apply pw_below_drewN | apply below_drew1 | refine below_set ?_ GE149.out) | exact HB.out)⟩
              · rw [if_neg c20] at H
                have c20b0 : (t152 == a0_3) = false := beq_eq_false_iff_ne.mpr c20
                have c20b1 : (t152 != a0_3) = true := bne_iff_ne.mpr c20
                obtain rfl := Option.some.inj H
                have hcz22_0 : wc.cell? ⟨gb149, 0, none⟩ = some (.int .i64 a0_0) := (blk_cell BK149.out 0).trans rfl
                have hcz22_1 : wc.cell? ⟨gb149, 1, none⟩ = some (.int .u64 a0_1) := (blk_cell BK149.out 1).trans rfl
                have hcz22_2 : wc.cell? ⟨gb149, 2, none⟩ = some (.int .u64 a0_2) := (blk_cell BK149.out 2).trans rfl
                have hcz22_3 : wc.cell? ⟨gb149, 3, none⟩ = some (.int .u64 a0_3) := (blk_cell BK149.out 3).trans rfl
                have hcz22_4 : wc.cell? ⟨gb149, 4, none⟩ = some (.int .u64 a0_4) := (blk_cell BK149.out 4).trans rfl
                have hcz22_5 : wc.cell? ⟨gb149, 5, none⟩ = some (.int .u64 a0_5) := (blk_cell BK149.out 5).trans rfl
                have hcz22_6 : wc.cell? ⟨gb149, 6, none⟩ = some (.int .u64 a0_6) := (blk_cell BK149.out 6).trans rfl
                have hfz22_0 := blk_frozen BK149.out 0
                have hfz22_1 := blk_frozen BK149.out 1
                have hfz22_2 := blk_frozen BK149.out 2
                have hfz22_3 := blk_frozen BK149.out 3
                have hfz22_4 := blk_frozen BK149.out 4
                have hfz22_5 := blk_frozen BK149.out 5
                have hfz22_6 := blk_frozen BK149.out 6
                go_wp2
                go_ret
                exact ⟨by first | rfl | (simp [errW_none, errW_some] <;> rfl) | (simp [*, errW_none, errW_some] <;> rfl), by repeat (first | (with_reducible first | exact HB.out | apply below_alloc | apply pw_below_drewN | apply below_drew1 | refine below_set ?_ GE149.out) | exact HB.out)⟩
          · rw [if_neg c18] at H
            have c18b0 : decide (t151 < 2) = false := decide_eq_false c18
            clear c18
            by_cases c23 : (IntKind.u64.wrap (t151 - 1)) = 0
            · rw [if_pos c23] at H
              exact absurd H (by simp)
            · rw [if_neg c23] at H
              have c23b0 : ((IntKind.u64.wrap (t151 - 1)) == 0) = false := beq_eq_false_iff_ne.mpr c23
              have c23b1 : ((IntKind.u64.wrap (t151 - 1)) != 0) = true := bne_iff_ne.mpr c23
              replace H := Option.bind_eq_some_iff.mp H
              obtain ⟨⟨t158, t159, t160⟩, A240, H⟩ := H
              replace H : ((window_Admit.f kj9 a0_1 a0_2 t158 t159 a0_5 (IntKind.u64.wrap (t151 - (IntKind.u64.wrap (1 + (Int.tmod a1 (IntKind.u64.wrap (t151 - 1)))))))).bind fun bt161 => (if t160 = true then (if bt161.2.2 = true then (if bt161.1 = t152 then (if bt161.2.1 = t153 then ((window_Left.f a0_1 a0_2 t158 t159 a0_5).bind fun t164 => (some (t164 == (IntKind.u64.wrap (t151 - (IntKind.u64.wrap (1 + (Int.tmod a1 (IntKind.u64.wrap (t151 - 1)))))))))) else (some false)) else (some false)) else (some false)) else (some false))) = some r := H
              have A24 := Aside0.mk A240
              clear A240
              replace H := Option.bind_eq_some_iff.mp H
              obtain ⟨⟨t161, t162, t163⟩, A250, H⟩ := H
              replace H : (if t160 = true then (if t163 = true then (if t161 = t152 then (if t162 = t153 then ((window_Left.f a0_1 a0_2 t158 t159 a0_5).bind fun t164 => (some (t164 == (IntKind.u64.wrap (t151 - (IntKind.u64.wrap (1 + (Int.tmod a1 (IntKind.u64.wrap (t151 - 1)))))))))) else (some false)) else (some false)) else (some false)) else (some false)) = some r := H
              have A25 := Aside0.mk A250
              clear A250
              by_cases c26 : t160 = true
              · subst c26
                have H1 : (if t163 = true then (if t161 = t152 then (if t162 = t153 then ((window_Left.f a0_1 a0_2 t158 t159 a0_5).bind fun t164 => (some (t164 == (IntKind.u64.wrap (t151 - (IntKind.u64.wrap (1 + (Int.tmod a1 (IntKind.u64.wrap (t151 - 1)))))))))) else (some false)) else (some false)) else (some false)) = some r := by rw [if_pos rfl] at H; exact H
                clear H
                have H := H1
                clear H1
                by_cases c27 : t163 = true
                · subst c27
                  have H1 : (if t161 = t152 then (if t162 = t153 then ((window_Left.f a0_1 a0_2 t158 t159 a0_5).bind fun t164 => (some (t164 == (IntKind.u64.wrap (t151 - (IntKind.u64.wrap (1 + (Int.tmod a1 (IntKind.u64.wrap (t151 - 1)))))))))) else (some false)) else (some false)) = some r := by rw [if_pos rfl] at H; exact H
                  clear H
                  have H := H1
                  clear H1
                  by_cases c28 : t161 = t152
                  · rw [if_pos c28] at H
                    have c28b0 : (t161 == t152) = true := beq_iff_eq.mpr c28
                    have c28b1 : (t161 != t152) = false := bne_eq_false_iff_eq.mpr c28
                    clear c28
                    by_cases c29 : t162 = t153
                    · rw [if_pos c29] at H
                      have c29b0 : (t162 == t153) = true := beq_iff_eq.mpr c29
                      have c29b1 : (t162 != t153) = false := bne_eq_false_iff_eq.mpr c29
                      clear c29
                      replace H := Option.bind_eq_some_iff.mp H
                      obtain ⟨t164, A300, H⟩ := H
                      replace H : (some (t164 == (IntKind.u64.wrap (t151 - (IntKind.u64.wrap (1 + (Int.tmod a1 (IntKind.u64.wrap (t151 - 1))))))))) = some r := H
                      have A30 := Aside0.mk A300
                      clear A300
                      obtain rfl := Option.some.inj H
                      have hcz31_0 : wc.cell? ⟨gb149, 0, none⟩ = some (.int .i64 a0_0) := (blk_cell BK149.out 0).trans rfl
                      have hcz31_1 : wc.cell? ⟨gb149, 1, none⟩ = some (.int .u64 a0_1) := (blk_cell BK149.out 1).trans rfl
                      have hcz31_2 : wc.cell? ⟨gb149, 2, none⟩ = some (.int .u64 a0_2) := (blk_cell BK149.out 2).trans rfl
                      have hcz31_3 : wc.cell? ⟨gb149, 3, none⟩ = some (.int .u64 a0_3) := (blk_cell BK149.out 3).trans rfl
                      have hcz31_4 : wc.cell? ⟨gb149, 4, none⟩ = some (.int .u64 a0_4) := (blk_cell BK149.out 4).trans rfl
                      have hcz31_5 : wc.cell? ⟨gb149, 5, none⟩ = some (.int .u64 a0_5) := (blk_cell BK149.out 5).trans rfl
                      have hcz31_6 : wc.cell? ⟨gb149, 6, none⟩ = some (.int .u64 a0_6) := (blk_cell BK149.out 6).trans rfl
                      have hfz31_0 := blk_frozen BK149.out 0
                      have hfz31_1 := blk_frozen BK149.out 1
                      have hfz31_2 := blk_frozen BK149.out 2
                      have hfz31_3 := blk_frozen BK149.out 3
                      have hfz31_4 := blk_frozen BK149.out 4
                      have hfz31_5 := blk_frozen BK149.out 5
                      have hfz31_6 := blk_frozen BK149.out 6
                      go_wp2_with (first | ((with_reducible refine gate_callee (f := 13) rfl ?_); refine goesL_ (some 106) rfl rfl Try.func13 (by kernel_rfl) rfl #[.int .u64 a0_1, .int .u64 a0_2, .int .u64 a0_3, .int .u64 a0_4, .int .u64 a0_5, .int .u64 (IntKind.u64.wrap (1 + (Int.tmod a1 (IntKind.u64.wrap (t151 - 1)))))] rfl (by (try simp only [List.map_toArray, List.map_cons, List.map_nil]); first | done | rfl | (simp only [List.length_drop, List.length_take]; rfl)) ?_; (with_reducible refine (window_Admit.calls kj9 a0_1 a0_2 a0_3 a0_4 a0_5 (IntKind.u64.wrap (1 + (Int.tmod a1 (IntKind.u64.wrap (t151 - 1))))) t158 t159 true _ A24.out).mono ?_); rintro e w' ⟨rfl, ⟨nd, rfl⟩⟩; refine ⟨_, rfl, ?_⟩) | ((with_reducible refine gate_callee (f := 13) rfl ?_); refine goesL_ (some 122) rfl rfl Try.func13 (by kernel_rfl) rfl #[.int .u64 a0_1, .int .u64 a0_2, .int .u64 t158, .int .u64 t159, .int .u64 a0_5, .int .u64 (IntKind.u64.wrap (t151 - (IntKind.u64.wrap (1 + (Int.tmod a1 (IntKind.u64.wrap (t151 - 1)))))))] rfl (by (try simp only [List.map_toArray, List.map_cons, List.map_nil]); first | done | rfl | (simp only [List.length_drop, List.length_take]; rfl)) ?_; (with_reducible refine (window_Admit.calls kj9 a0_1 a0_2 t158 t159 a0_5 (IntKind.u64.wrap (t151 - (IntKind.u64.wrap (1 + (Int.tmod a1 (IntKind.u64.wrap (t151 - 1))))))) t161 t162 true _ A25.out).mono ?_); rintro e w' ⟨rfl, ⟨nd, rfl⟩⟩; refine ⟨_, rfl, ?_⟩) | (go_at_call 12; (with_reducible refine (window_Left.calls a0_1 a0_2 t158 t159 a0_5 t164 _ A30.out).mono ?_); rintro e w' ⟨rfl, ⟨nd, rfl⟩⟩))
                      go_ret
                      exact ⟨by first | rfl | (simp [errW_none, errW_some] <;> rfl) | (simp [*, errW_none, errW_some] <;> rfl), by repeat (first | (with_reducible first | exact HB.out | apply below_alloc | apply pw_below_drewN | apply below_drew1 | refine below_set ?_ GE149.out) | exact HB.out)⟩
                    · rw [if_neg c29] at H
                      have c29b0 : (t162 == t153) = false := beq_eq_false_iff_ne.mpr c29
                      have c29b1 : (t162 != t153) = true := bne_iff_ne.mpr c29
                      obtain rfl := Option.some.inj H
                      have hcz32_0 : wc.cell? ⟨gb149, 0, none⟩ = some (.int .i64 a0_0) := (blk_cell BK149.out 0).trans rfl
                      have hcz32_1 : wc.cell? ⟨gb149, 1, none⟩ = some (.int .u64 a0_1) := (blk_cell BK149.out 1).trans rfl
                      have hcz32_2 : wc.cell? ⟨gb149, 2, none⟩ = some (.int .u64 a0_2) := (blk_cell BK149.out 2).trans rfl
                      have hcz32_3 : wc.cell? ⟨gb149, 3, none⟩ = some (.int .u64 a0_3) := (blk_cell BK149.out 3).trans rfl
                      have hcz32_4 : wc.cell? ⟨gb149, 4, none⟩ = some (.int .u64 a0_4) := (blk_cell BK149.out 4).trans rfl
                      have hcz32_5 : wc.cell? ⟨gb149, 5, none⟩ = some (.int .u64 a0_5) := (blk_cell BK149.out 5).trans rfl
                      have hcz32_6 : wc.cell? ⟨gb149, 6, none⟩ = some (.int .u64 a0_6) := (blk_cell BK149.out 6).trans rfl
                      have hfz32_0 := blk_frozen BK149.out 0
                      have hfz32_1 := blk_frozen BK149.out 1
                      have hfz32_2 := blk_frozen BK149.out 2
                      have hfz32_3 := blk_frozen BK149.out 3
                      have hfz32_4 := blk_frozen BK149.out 4
                      have hfz32_5 := blk_frozen BK149.out 5
                      have hfz32_6 := blk_frozen BK149.out 6
                      go_wp2_with (first | ((with_reducible refine gate_callee (f := 13) rfl ?_); refine goesL_ (some 106) rfl rfl Try.func13 (by kernel_rfl) rfl #[.int .u64 a0_1, .int .u64 a0_2, .int .u64 a0_3, .int .u64 a0_4, .int .u64 a0_5, .int .u64 (IntKind.u64.wrap (1 + (Int.tmod a1 (IntKind.u64.wrap (t151 - 1)))))] rfl (by (try simp only [List.map_toArray, List.map_cons, List.map_nil]); first | done | rfl | (simp only [List.length_drop, List.length_take]; rfl)) ?_; (with_reducible refine (window_Admit.calls kj9 a0_1 a0_2 a0_3 a0_4 a0_5 (IntKind.u64.wrap (1 + (Int.tmod a1 (IntKind.u64.wrap (t151 - 1))))) t158 t159 true _ A24.out).mono ?_); rintro e w' ⟨rfl, ⟨nd, rfl⟩⟩; refine ⟨_, rfl, ?_⟩) | ((with_reducible refine gate_callee (f := 13) rfl ?_); refine goesL_ (some 122) rfl rfl Try.func13 (by kernel_rfl) rfl #[.int .u64 a0_1, .int .u64 a0_2, .int .u64 t158, .int .u64 t159, .int .u64 a0_5, .int .u64 (IntKind.u64.wrap (t151 - (IntKind.u64.wrap (1 + (Int.tmod a1 (IntKind.u64.wrap (t151 - 1)))))))] rfl (by (try simp only [List.map_toArray, List.map_cons, List.map_nil]); first | done | rfl | (simp only [List.length_drop, List.length_take]; rfl)) ?_; (with_reducible refine (window_Admit.calls kj9 a0_1 a0_2 t158 t159 a0_5 (IntKind.u64.wrap (t151 - (IntKind.u64.wrap (1 + (Int.tmod a1 (IntKind.u64.wrap (t151 - 1))))))) t161 t162 true _ A25.out).mono ?_); rintro e w' ⟨rfl, ⟨nd, rfl⟩⟩; refine ⟨_, rfl, ?_⟩))
                      go_ret
                      exact ⟨by first | rfl | (simp [errW_none, errW_some] <;> rfl) | (simp [*, errW_none, errW_some] <;> rfl), by repeat (first | (with_reducible first | exact HB.out | apply below_alloc | apply pw_below_drewN | apply below_drew1 | refine below_set ?_ GE149.out) | exact HB.out)⟩
                  · rw [if_neg c28] at H
                    have c28b0 : (t161 == t152) = false := beq_eq_false_iff_ne.mpr c28
                    have c28b1 : (t161 != t152) = true := bne_iff_ne.mpr c28
                    obtain rfl := Option.some.inj H
                    have hcz33_0 : wc.cell? ⟨gb149, 0, none⟩ = some (.int .i64 a0_0) := (blk_cell BK149.out 0).trans rfl
                    have hcz33_1 : wc.cell? ⟨gb149, 1, none⟩ = some (.int .u64 a0_1) := (blk_cell BK149.out 1).trans rfl
                    have hcz33_2 : wc.cell? ⟨gb149, 2, none⟩ = some (.int .u64 a0_2) := (blk_cell BK149.out 2).trans rfl
                    have hcz33_3 : wc.cell? ⟨gb149, 3, none⟩ = some (.int .u64 a0_3) := (blk_cell BK149.out 3).trans rfl
                    have hcz33_4 : wc.cell? ⟨gb149, 4, none⟩ = some (.int .u64 a0_4) := (blk_cell BK149.out 4).trans rfl
                    have hcz33_5 : wc.cell? ⟨gb149, 5, none⟩ = some (.int .u64 a0_5) := (blk_cell BK149.out 5).trans rfl
                    have hcz33_6 : wc.cell? ⟨gb149, 6, none⟩ = some (.int .u64 a0_6) := (blk_cell BK149.out 6).trans rfl
                    have hfz33_0 := blk_frozen BK149.out 0
                    have hfz33_1 := blk_frozen BK149.out 1
                    have hfz33_2 := blk_frozen BK149.out 2
                    have hfz33_3 := blk_frozen BK149.out 3
                    have hfz33_4 := blk_frozen BK149.out 4
                    have hfz33_5 := blk_frozen BK149.out 5
                    have hfz33_6 := blk_frozen BK149.out 6
                    go_wp2_with (first | ((with_reducible refine gate_callee (f := 13) rfl ?_); refine goesL_ (some 106) rfl rfl Try.func13 (by kernel_rfl) rfl #[.int .u64 a0_1, .int .u64 a0_2, .int .u64 a0_3, .int .u64 a0_4, .int .u64 a0_5, .int .u64 (IntKind.u64.wrap (1 + (Int.tmod a1 (IntKind.u64.wrap (t151 - 1)))))] rfl (by (try simp only [List.map_toArray, List.map_cons, List.map_nil]); first | done | rfl | (simp only [List.length_drop, List.length_take]; rfl)) ?_; (with_reducible refine (window_Admit.calls kj9 a0_1 a0_2 a0_3 a0_4 a0_5 (IntKind.u64.wrap (1 + (Int.tmod a1 (IntKind.u64.wrap (t151 - 1))))) t158 t159 true _ A24.out).mono ?_); rintro e w' ⟨rfl, ⟨nd, rfl⟩⟩; refine ⟨_, rfl, ?_⟩) | ((with_reducible refine gate_callee (f := 13) rfl ?_); refine goesL_ (some 122) rfl rfl Try.func13 (by kernel_rfl) rfl #[.int .u64 a0_1, .int .u64 a0_2, .int .u64 t158, .int .u64 t159, .int .u64 a0_5, .int .u64 (IntKind.u64.wrap (t151 - (IntKind.u64.wrap (1 + (Int.tmod a1 (IntKind.u64.wrap (t151 - 1)))))))] rfl (by (try simp only [List.map_toArray, List.map_cons, List.map_nil]); first | done | rfl | (simp only [List.length_drop, List.length_take]; rfl)) ?_; (with_reducible refine (window_Admit.calls kj9 a0_1 a0_2 t158 t159 a0_5 (IntKind.u64.wrap (t151 - (IntKind.u64.wrap (1 + (Int.tmod a1 (IntKind.u64.wrap (t151 - 1))))))) t161 t162 true _ A25.out).mono ?_); rintro e w' ⟨rfl, ⟨nd, rfl⟩⟩; refine ⟨_, rfl, ?_⟩))
                    go_ret
                    exact ⟨by first | rfl | (simp [errW_none, errW_some] <;> rfl) | (simp [*, errW_none, errW_some] <;> rfl), by repeat (first | (with_reducible first | exact HB.out | apply below_alloc | apply pw_below_drewN | apply below_drew1 | refine below_set ?_ GE149.out) | exact HB.out)⟩
                · replace c27 := Bool.eq_false_iff.mpr c27
                  subst c27
                  have H1 : (some false) = some r := by rw [if_neg (show ¬ (false = true) by decide)] at H; exact H
                  clear H
                  have H := H1
                  clear H1
                  obtain rfl := Option.some.inj H
                  have hcz34_0 : wc.cell? ⟨gb149, 0, none⟩ = some (.int .i64 a0_0) := (blk_cell BK149.out 0).trans rfl
                  have hcz34_1 : wc.cell? ⟨gb149, 1, none⟩ = some (.int .u64 a0_1) := (blk_cell BK149.out 1).trans rfl
                  have hcz34_2 : wc.cell? ⟨gb149, 2, none⟩ = some (.int .u64 a0_2) := (blk_cell BK149.out 2).trans rfl
                  have hcz34_3 : wc.cell? ⟨gb149, 3, none⟩ = some (.int .u64 a0_3) := (blk_cell BK149.out 3).trans rfl
                  have hcz34_4 : wc.cell? ⟨gb149, 4, none⟩ = some (.int .u64 a0_4) := (blk_cell BK149.out 4).trans rfl
                  have hcz34_5 : wc.cell? ⟨gb149, 5, none⟩ = some (.int .u64 a0_5) := (blk_cell BK149.out 5).trans rfl
                  have hcz34_6 : wc.cell? ⟨gb149, 6, none⟩ = some (.int .u64 a0_6) := (blk_cell BK149.out 6).trans rfl
                  have hfz34_0 := blk_frozen BK149.out 0
                  have hfz34_1 := blk_frozen BK149.out 1
                  have hfz34_2 := blk_frozen BK149.out 2
                  have hfz34_3 := blk_frozen BK149.out 3
                  have hfz34_4 := blk_frozen BK149.out 4
                  have hfz34_5 := blk_frozen BK149.out 5
                  have hfz34_6 := blk_frozen BK149.out 6
                  go_wp2_with (first | ((with_reducible refine gate_callee (f := 13) rfl ?_); refine goesL_ (some 106) rfl rfl Try.func13 (by kernel_rfl) rfl #[.int .u64 a0_1, .int .u64 a0_2, .int .u64 a0_3, .int .u64 a0_4, .int .u64 a0_5, .int .u64 (IntKind.u64.wrap (1 + (Int.tmod a1 (IntKind.u64.wrap (t151 - 1)))))] rfl (by (try simp only [List.map_toArray, List.map_cons, List.map_nil]); first | done | rfl | (simp only [List.length_drop, List.length_take]; rfl)) ?_; (with_reducible refine (window_Admit.calls kj9 a0_1 a0_2 a0_3 a0_4 a0_5 (IntKind.u64.wrap (1 + (Int.tmod a1 (IntKind.u64.wrap (t151 - 1))))) t158 t159 true _ A24.out).mono ?_); rintro e w' ⟨rfl, ⟨nd, rfl⟩⟩; refine ⟨_, rfl, ?_⟩) | ((with_reducible refine gate_callee (f := 13) rfl ?_); refine goesL_ (some 122) rfl rfl Try.func13 (by kernel_rfl) rfl #[.int .u64 a0_1, .int .u64 a0_2, .int .u64 t158, .int .u64 t159, .int .u64 a0_5, .int .u64 (IntKind.u64.wrap (t151 - (IntKind.u64.wrap (1 + (Int.tmod a1 (IntKind.u64.wrap (t151 - 1)))))))] rfl (by (try simp only [List.map_toArray, List.map_cons, List.map_nil]); first | done | rfl | (simp only [List.length_drop, List.length_take]; rfl)) ?_; (with_reducible refine (window_Admit.calls kj9 a0_1 a0_2 t158 t159 a0_5 (IntKind.u64.wrap (t151 - (IntKind.u64.wrap (1 + (Int.tmod a1 (IntKind.u64.wrap (t151 - 1))))))) t161 t162 false _ A25.out).mono ?_); rintro e w' ⟨rfl, ⟨nd, rfl⟩⟩; refine ⟨_, rfl, ?_⟩))
                  go_ret
                  exact ⟨by first | rfl | (simp [errW_none, errW_some] <;> rfl) | (simp [*, errW_none, errW_some] <;> rfl), by repeat (first | (with_reducible first | exact HB.out | apply below_alloc | apply pw_below_drewN | apply below_drew1 | refine below_set ?_ GE149.out) | exact HB.out)⟩
              · replace c26 := Bool.eq_false_iff.mpr c26
                subst c26
                have H1 : (some false) = some r := by rw [if_neg (show ¬ (false = true) by decide)] at H; exact H
                clear H
                have H := H1
                clear H1
                obtain rfl := Option.some.inj H
                have hcz35_0 : wc.cell? ⟨gb149, 0, none⟩ = some (.int .i64 a0_0) := (blk_cell BK149.out 0).trans rfl
                have hcz35_1 : wc.cell? ⟨gb149, 1, none⟩ = some (.int .u64 a0_1) := (blk_cell BK149.out 1).trans rfl
                have hcz35_2 : wc.cell? ⟨gb149, 2, none⟩ = some (.int .u64 a0_2) := (blk_cell BK149.out 2).trans rfl
                have hcz35_3 : wc.cell? ⟨gb149, 3, none⟩ = some (.int .u64 a0_3) := (blk_cell BK149.out 3).trans rfl
                have hcz35_4 : wc.cell? ⟨gb149, 4, none⟩ = some (.int .u64 a0_4) := (blk_cell BK149.out 4).trans rfl
                have hcz35_5 : wc.cell? ⟨gb149, 5, none⟩ = some (.int .u64 a0_5) := (blk_cell BK149.out 5).trans rfl
                have hcz35_6 : wc.cell? ⟨gb149, 6, none⟩ = some (.int .u64 a0_6) := (blk_cell BK149.out 6).trans rfl
                have hfz35_0 := blk_frozen BK149.out 0
                have hfz35_1 := blk_frozen BK149.out 1
                have hfz35_2 := blk_frozen BK149.out 2
                have hfz35_3 := blk_frozen BK149.out 3
                have hfz35_4 := blk_frozen BK149.out 4
                have hfz35_5 := blk_frozen BK149.out 5
                have hfz35_6 := blk_frozen BK149.out 6
                go_wp2_with (first | ((with_reducible refine gate_callee (f := 13) rfl ?_); refine goesL_ (some 106) rfl rfl Try.func13 (by kernel_rfl) rfl #[.int .u64 a0_1, .int .u64 a0_2, .int .u64 a0_3, .int .u64 a0_4, .int .u64 a0_5, .int .u64 (IntKind.u64.wrap (1 + (Int.tmod a1 (IntKind.u64.wrap (t151 - 1)))))] rfl (by (try simp only [List.map_toArray, List.map_cons, List.map_nil]); first | done | rfl | (simp only [List.length_drop, List.length_take]; rfl)) ?_; (with_reducible refine (window_Admit.calls kj9 a0_1 a0_2 a0_3 a0_4 a0_5 (IntKind.u64.wrap (1 + (Int.tmod a1 (IntKind.u64.wrap (t151 - 1))))) t158 t159 false _ A24.out).mono ?_); rintro e w' ⟨rfl, ⟨nd, rfl⟩⟩; refine ⟨_, rfl, ?_⟩) | ((with_reducible refine gate_callee (f := 13) rfl ?_); refine goesL_ (some 122) rfl rfl Try.func13 (by kernel_rfl) rfl #[.int .u64 a0_1, .int .u64 a0_2, .int .u64 t158, .int .u64 t159, .int .u64 a0_5, .int .u64 (IntKind.u64.wrap (t151 - (IntKind.u64.wrap (1 + (Int.tmod a1 (IntKind.u64.wrap (t151 - 1)))))))] rfl (by (try simp only [List.map_toArray, List.map_cons, List.map_nil]); first | done | rfl | (simp only [List.length_drop, List.length_take]; rfl)) ?_; (with_reducible refine (window_Admit.calls kj9 a0_1 a0_2 t158 t159 a0_5 (IntKind.u64.wrap (t151 - (IntKind.u64.wrap (1 + (Int.tmod a1 (IntKind.u64.wrap (t151 - 1))))))) t161 t162 t163 _ A25.out).mono ?_); rintro e w' ⟨rfl, ⟨nd, rfl⟩⟩; refine ⟨_, rfl, ?_⟩))
                go_ret
                exact ⟨by first | rfl | (simp [errW_none, errW_some] <;> rfl) | (simp [*, errW_none, errW_some] <;> rfl), by repeat (first | (with_reducible first | exact HB.out | apply below_alloc | apply pw_below_drewN | apply below_drew1 | refine below_set ?_ GE149.out) | exact HB.out)⟩
  · replace c4 := Bool.eq_false_iff.mpr c4
    subst c4
    have H1 : (some false) = some r := by rw [if_neg (show ¬ (false = true) by decide)] at H; exact H
    clear H
    have H := H1
    clear H1
    obtain rfl := Option.some.inj H
    go_enter Try.func5, Try.ntmps5
    go_wp2_with (first | ((with_reducible refine gate_dst (N := 2) rfl ?_); refine box_event ?hg (N := 2) ?hd (cs := #[.int .i64 a0_0, .int .u64 a0_1, .int .u64 a0_2, .int .u64 a0_3, .int .u64 a0_4, .int .u64 a0_5, .int .u64 a0_6]) (t := 27) ?hr ?_; (case hd => rfl); (case hg => rfl); (case hr => first | (go_simp; done) | (go_simp; rfl)); intro gb149 hg w36 hbox hb; have n0_ := Aside0.mk (below_step (by repeat (first | (with_reducible first | exact HB.out | apply below_alloc | apply pw_below_drewN | apply below_drew1) | exact HB.out)) hb); have n1_ := Aside0.mk (hbox); have n2_ := Aside0.mk ((by rw [hg]; exact (below_size (by repeat (first | (with_reducible first | exact HB.out | apply below_alloc | apply pw_below_drewN | apply below_drew1) | exact HB.out))) : w.heap.size ≤ gb149)); have n3_ := Aside0.mk ((by rw [hg]; exact (below_size (by repeat (first | (with_reducible first | exact HB.out | apply below_alloc | apply pw_below_drewN | apply below_drew1) | exact HB.out))) : w.heap.size ≤ gb149)); clear HB; have HB := n0_; have BK149 := n1_; have GW149 := n2_; have GE149 := n3_; clear n0_ n1_ n2_ n3_; clear hb hbox hg) | ((with_reducible refine gate_callee (f := 8) rfl ?_); refine goesL_ (some 20) rfl rfl Try.func8 (by kernel_rfl) rfl #[] rfl (by (try simp only [List.map_toArray, List.map_cons, List.map_nil]); first | done | rfl | (simp only [List.length_drop, List.length_take]; rfl)) ?_; (with_reducible refine (turnstilelaw05_awake.calls k  false _ A3.out).mono ?_); rintro e w' ⟨rfl, ⟨nd, rfl⟩⟩; refine ⟨_, rfl, ?_⟩))
    go_ret
    exact ⟨by first | rfl | (simp [errW_none, errW_some] <;> rfl) | (simp [*, errW_none, errW_some] <;> rfl), by repeat (first | (with_reducible first | exact HB.out | apply below_alloc | apply pw_below_drewN | apply below_drew1 | refine below_set ?_ GE149.out) | exact HB.out)⟩

end Go.Proofs.Ytocchdbmeokmhaa.PWin
