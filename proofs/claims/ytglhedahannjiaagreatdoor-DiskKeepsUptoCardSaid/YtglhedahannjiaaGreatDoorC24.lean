/- A part of the proof of diskDown_holds: Er. No condition. -/
import Derived.Deep.RegionHeld3
import Derived.Test.YtglhedahannjiaaGreatDoorC23

/- Walks: lives. -/
namespace Go.Proofs.YtglhedahannjiaaGreatDoor.Dw
open Go.RowKit Go.ChangeMaps Go.Proofs.YtglhedahannjiaaGreatDoor.Mp Go.Proofs.YtglhedahannjiaaGreatDoor.Dm Go.Proofs.YtglhedahannjiaaGreatDoor.Da
open Go.Proofs.YtglhedahannjiaaGreatDoorW.PrintWords (Kd own_string own_move)
set_option linter.unusedVariables false
set_option linter.unusedSimpArgs false
set_option linter.unusedSectionVars false
theorem frm_base {F : Nat → Prop} {B : Nat} {w w' : World} (h : Frm F w w') (hF : ∀ k, F k → B ≤ k) : Frm (fun k => B ≤ k) w w' := h.mono fun i _ hi => hF i hi
theorem Given.own {w : World} {lab : Nat → Option Lb} {base : Nat} {v : Value} {xs : List Int} (h : w.ownsRow base 5 1 v xs.length (u8s xs)) (hl : ∀ g, v.ownBlock = some g → lab g = none) : Given w lab v xs := by
  rcases h.2 with ⟨hv, he⟩ | ⟨g, cap, cur, hv, h1, h2, h3, h4, h5, h6⟩
  · exact ⟨.inl ⟨hv, List.eq_nil_of_length_eq_zero he⟩, fun _ g o n c hh => by rw [hv] at hh; cases hh⟩
  · refine ⟨.inr (.inl ⟨g, 0, cap, hv, fun j u hu => ?_⟩), fun _ g' o n c hh => ?_⟩
    · have := h.cells (g := g) (by rw [hv]; rfl) j u hu
      rw [add_off] at this; exact this
    · rw [hv] at hh
      simp only [Value.slice.injEq, Option.some.injEq, Addr.mk.injEq] at hh
      obtain ⟨⟨rfl, _⟩, _⟩ := hh
      exact ⟨(own_low h (k := g) (by rw [hv]; rfl)).2, hl g (by rw [hv]; rfl)⟩
theorem Live.fresh {B : Nat} {w : World} {b : Nat} {lab : Nat → Option Lb} {eb : Nat → Addr} {L : List Err} {n m : Nat} {D : Disk} (h : Live B w b lab eb L n m D) {k : Nat} (hk : w.heap.size ≤ k) : lab k = none := by
  obtain ⟨A, h1⟩ := h.dsk
  rcases hc : lab k with _ | p
  · rfl
  · have := (h1.base k p hc).2; omega
theorem Live.alloc {B : Nat} {w : World} {b : Nat} {lab : Nat → Option Lb} {eb : Nat → Addr} {L : List Err} {n m : Nat} {D : Disk} (h : Live B w b lab eb L n m D) (o : Obj) : Live B (w.alloc o) b lab eb L n m D := h.frm ((Frm.refl _ _).alloc o)
theorem lives_append_calls {B : Nat} {w : World} {b : Nat} {lab : Nat → Option Lb} {eb : Nat → Addr} {L : List Err} (h : Live B w b lab eb L 1 0 live1) :
    Calls Tryz.prog 13 #[.pointer (some ⟨b, 0, none⟩), .string ⟨#[97]⟩, .slice (some ⟨w.heap.size, 0, none⟩) 3 3] (w.alloc (.cells #[.int .u8 1, .int .u8 2, .int .u8 3] 5)) fun e w' => e = .returned .nilIface ∧ ∃ lab', Live B w' b lab' eb L 2 3 live2 ∧ Frm (fun k => B ≤ k) w w' := by
  have hG : Given (w.alloc (.cells #[.int .u8 1, .int .u8 2, .int .u8 3] 5)) lab (.slice (some ⟨w.heap.size, 0, none⟩) [1, 2, 3].length 3) ([1, 2, 3] : List Int) := by
    refine ⟨.inr (.inl ⟨_, 0, _, rfl, fun j u hu => ?_⟩), fun _ g o n c hh => ?_⟩
    · rw [Nat.zero_add]
      exact cell_of blk_alloc (by simpa [u8s] using hu)
    · simp only [Value.slice.injEq, Option.some.injEq, Addr.mk.injEq] at hh
      obtain ⟨⟨rfl, _⟩, _⟩ := hh
      exact ⟨by simp, h.fresh (Nat.le_refl _)⟩
  have K := (h.alloc (.cells #[.int .u8 1, .int .u8 2, .int .u8 3] 5)).append (by decide) nA (some ⟨w.heap.size, 0, none⟩) 3 [1, 2, 3] hG (Nat.le_refl _) (by decide) (by decide)
  rw [lives_append, errV_zero] at K
  refine K.mono ?_
  rintro e w' ⟨he, lab', h1, h2, h3⟩
  exact ⟨he, lab', h1, frm_base (((Frm.refl _ _).alloc _).trans h2 (fun _ _ h => h)) h.base⟩
theorem own_frm_off {F : Nat → Prop} {w w' : World} {base : Nat} {e : TypeId} {size n : Nat} {v : Value} {xs : List Value} (h : w.ownsRow base e size v n xs) (hf : Frm F w w') (hF : ∀ k, v.ownBlock = some k → ¬ F k) : w'.ownsRow base e size v n xs :=
  own_move h fun k hk => hf.block k (own_low h hk).2 (hF k hk)
theorem err_eql (a : Addr) (W : World) : (binOp .eql 28 (.iface 228 (.pointer (some a))) (.iface 228 (.pointer (some a)))).run Tryz.prog W = .ok (.bool true) W := by
  obtain ⟨i, hi, hcmp⟩ := Option.map_eq_some_iff.1 Go.Proofs.YtglhedahannjiaaGreatDoor.Ei.isComp
  obtain ⟨j, hj, hjs⟩ := Option.map_eq_some_iff.1 Go.Proofs.YtglhedahannjiaaGreatDoor.Ei.isSize
  exact run_eql_iface_ptr_same (P := Tryz.prog) W a Tryz.underlying28 Tryz.underlying228 hi hcmp hj
theorem lives_read_calls {B : Nat} {w : World} {b : Nat} {lab : Nat → Option Lb} {eb : Nat → Addr} {L : List Err} (h : Live B w b lab eb L 2 3 live2) :
    Calls Tryz.prog 45 #[.pointer (some ⟨b, 0, none⟩), .string ⟨#[97]⟩] w fun e w' => ∃ p1 c1 p2 c2, e = .returned (.tuple #[.slice p1 3 c1, .slice p2 0 c2, .nilIface]) ∧ w'.ownsRow w.heap.size 5 1 (.slice p1 3 c1) 3 (u8s [1, 2, 3]) ∧ Frm (fun _ => False) w w' := by
  have K := h.read nA
  have e : live2.read nA = (0, [1, 2, 3], []) := rfl
  rw [e, errV_zero] at K
  refine K.mono ?_
  rintro e w' ⟨dv, bv, rfl, h1, h2, h3⟩
  obtain ⟨p1, c1, rfl⟩ := own_form h1
  obtain ⟨p2, c2, rfl⟩ := own_form h2
  exact ⟨p1, c1, p2, c2, rfl, h1, h3⟩
theorem lives_waiting_calls {B : Nat} {w : World} {b : Nat} {lab : Nat → Option Lb} {eb : Nat → Addr} {L : List Err} (h : Live B w b lab eb L 2 3 live2) :
    Calls Tryz.prog 16 #[.pointer (some ⟨b, 0, none⟩)] w fun e w' => e = .returned (.tuple #[.int .i64 1, .int .i64 1]) ∧ Frm (fun _ => False) w w' := by
  have K := h.waiting
  rw [lives_waiting, lives_changes] at K
  exact K
theorem lives_crash_calls {B : Nat} {w : World} {b : Nat} {lab : Nat → Option Lb} {eb : Nat → Addr} {L : List Err} (h : Live B w b lab eb L 2 3 live2) :
    Calls Tryz.prog 17 #[.pointer (some ⟨b, 0, none⟩), .agg #[.slice (some ⟨w.heap.size, 0, none⟩) 1 1, .int .i64 1]] (w.alloc (.cells #[.int .i64 1] 3)) fun e w' => ∃ A c, e = .returned (.agg #[.slice A 1 c]) ∧ fileK.R 41 w' w.heap.size (fun _ => True) (.slice A 1 c) [⟨nA, [1, 2, 3], []⟩] ∧ Frm (fun _ => False) w w' := by
  have K := (h.alloc (.cells #[.int .i64 1] 3)).crash [1] 1 (some ⟨w.heap.size, 0, none⟩) 1 (fun j hj => ⟨_, rfl, by
    obtain rfl : j = 0 := by simp at hj; omega
    rw [add_off, Nat.zero_add]
    exact cell_of blk_alloc rfl⟩) (by decide)
  rw [lives_crash] at K
  refine K.mono ?_
  rintro e w' ⟨v, rfl, ⟨A, c, rfl, hR⟩, hf⟩
  exact ⟨A, c, rfl, Kd.R_lower hR (by simp), ((Frm.refl _ _).alloc _).trans hf (fun _ _ h => h)⟩
theorem lives_safe_calls {B : Nat} {w : World} {b : Nat} {lab : Nat → Option Lb} {eb : Nat → Addr} {L : List Err} (h : Live B w b lab eb L 2 3 live2) :
    Calls Tryz.prog 31 #[.pointer (some ⟨b, 0, none⟩)] w fun e w' => ∃ A c, e = .returned (.agg #[.slice A 0 c]) ∧ Frm (fun _ => False) w w' := by
  have K := h.safe
  rw [lives_safe] at K
  refine K.mono ?_
  rintro e w' ⟨v, rfl, ⟨A, c, rfl, hR⟩, hf⟩
  exact ⟨A, c, rfl, hf⟩
theorem lives_there_calls {B : Nat} {w : World} {b : Nat} {lab : Nat → Option Lb} {eb : Nat → Addr} {L : List Err} (h : Live B w b lab eb L 2 3 live2) :
    Calls Tryz.prog 12 #[.pointer (some ⟨b, 0, none⟩), .string ⟨#[97]⟩] w fun e w' => e = .returned (.iface 228 (.pointer (some (eb 9)))) ∧ Frm (Ft lab) w w' := by
  have K := h.create (by decide) nA (by decide)
  rw [lives_there] at K
  refine K.mono ?_
  rintro e w' ⟨rfl, lab', h1, h2, h3⟩
  exact ⟨rfl, h2⟩
set_option maxHeartbeats 1000000 in
set_option maxRecDepth 100000 in
theorem lives_calls {w : World} {eb : Nat → Addr} {L : List Err} (he : ErrsAt w.heap.size w eb L) :
    Calls Tryz.prog 10 #[] w fun e w' => e = .returned (.bool true) ∧ Frm (fun _ => False) w w' := by
  have KEY0 := Lib.hid (new_calls w)
  have LV0 := Lib.hid (Live.born he)
  have hsz : w.heap.size < (wBorn w).heap.size := by unfold wBorn; simp only [World.size_alloc]; omega
  have F0 : Hid (Frm (fun k => w.heap.size ≤ k) w (wBorn w)) := Lib.hid (Frm.of_below (born_below w) _)
  have KEY10 := (Live.born he).create (by decide) nA (by decide)
  rw [lives_create, errV_zero] at KEY10
  unfold nA dptr at KEY10
  unfold dptr at KEY0
  have KEY1 := Lib.hid KEY10
  clear KEY10
  clear he
  obtain ⟨B, hB⟩ : ∃ B, B = w.heap.size := ⟨_, rfl⟩
  rw [← hB] at KEY0 LV0 hsz F0 KEY1
  have hBw : Hid (B = w.heap.size) := Lib.hid hB
  clear hB
  generalize hwb : wBorn w = wb at *
  clear hwb
  go_enter Tryz.func10, Tryz.ntmps10
  go_wp2_with (first
    | (go_at_call 11; (with_reducible refine KEY0.out.mono ?_); rintro e w1 ⟨rfl, rfl⟩)
    | (go_at_call 12; (with_reducible refine KEY1.out.mono ?_); rintro e w2 ⟨rfl, lab1, lv1, f1, l1⟩; have KEY2 := Lib.hid (lives_append_calls lv1); have F1 := Lib.hid (F0.out.trans f1 (fun _ _ h => LV0.out.base _ h)); clear lv1 f1 l1)
    | (go_at_call 13; (with_reducible refine KEY2.out.mono ?_); rintro e w3 ⟨rfl, lab2, lv2, f2⟩; have KEY3 := Lib.hid (lives_read_calls lv2); have LV2 := Lib.hid lv2; have F2 := Lib.hid (F1.out.trans f2 (fun _ _ h => h)); clear lv2 f2 F0 F1 KEY0 KEY1 KEY2 LV0)
    | (go_at_call 45; (with_reducible refine KEY3.out.mono ?_); rintro e w4 ⟨p1, c1, p2, c2, rfl, hr4, f4⟩; have hs4 := f4.size; have fr4 := fun k h => LV2.out.fresh (k := k) h; have HR4 := Lib.hid hr4; have LV4 := Lib.hid (LV2.out.frm f4); have KEY4 := Lib.hid (lives_waiting_calls LV4.out); have F4 := Lib.hid (F2.out.trans f4 (fun _ _ h => h.elim)); clear KEY3 hr4 f4 F2 LV2)
    | (go_at_call 16; (with_reducible refine KEY4.out.mono ?_); rintro e w5 ⟨rfl, f5⟩; have hs5 := f5.size; have LV5 := Lib.hid (LV4.out.frm f5); have HR5 := Lib.hid (own_frm HR4.out f5); have KEY5 := Lib.hid (lives_crash_calls LV5.out); have F5 := Lib.hid (F4.out.trans f5 (fun _ _ h => h.elim)); clear KEY4 f5 F4 HR4 LV4)
    | (go_at_call 17; (with_reducible refine KEY5.out.mono ?_); rintro e w6 ⟨iA, ic, rfl, hr6, f6⟩; have hs6 := f6.size; have LV6 := Lib.hid (LV5.out.frm f6); have HR6 := Lib.hid (own_frm HR5.out f6); have HI6 := Lib.hid hr6; have F6 := Lib.hid (F5.out.trans f6 (fun _ _ h => h.elim)); clear KEY5 f6 F5 HR5 LV5 hr6))
  obtain ⟨g, c, dv, bv, hv, hc, k0, k1, k2, hd, hb⟩ := img_file HI6.out 0 _ rfl
  simp only [Value.slice.injEq, List.length_singleton] at hv
  obtain ⟨rfl, -, rfl⟩ := hv
  obtain ⟨p3, c3, rfl⟩ := own_form hd
  have hgb := own_low (Kd.R_own HI6.out).choose_spec (k := g) rfl
  have F7 : Frm (fun _ => False) w6 (w6.alloc (.cells #[.slice (some ⟨g, 0, none⟩) 1 ic] 36)) := (Frm.refl _ _).alloc _
  have bt : (w6.alloc (.cells #[.slice (some ⟨g, 0, none⟩) 1 ic] 36)).cell? ⟨w6.heap.size, 0, none⟩ = some (.slice (some ⟨g, 0, none⟩) 1 ic) := cell_of blk_alloc rfl
  have LV7 := Lib.hid (LV6.out.frm F7)
  have hr7 := own_frm HR6.out F7
  have hd7 := own_frm hd F7
  have hq : w6.heap.size < (w6.alloc (.cells #[.slice (some ⟨g, 0, none⟩) 1 ic] 36)).heap.size := by simp
  have hf7 := Lib.hid (F6.out.trans F7 (fun _ _ h => h.elim))
  have k17 := cell_alloc (o := .cells #[.slice (some ⟨g, 0, none⟩) 1 ic] 36) k1
  have nq : ¬ Ft lab2 w6.heap.size := by unfold Ft; rw [fr4 _ (by omega)]; simp
  have ng : ¬ Ft lab2 g := by unfold Ft; rw [fr4 _ (by omega)]; simp
  have nr : ∀ k, w3.heap.size ≤ k → ¬ Ft lab2 k := fun k hk => by unfold Ft; rw [fr4 _ hk]; simp
  clear HR6 HI6 LV6 F6 k0 k1 k2 hb hd F7 hsz hc hgb fr4
  generalize (w6.alloc (.cells #[.slice (some ⟨g, 0, none⟩) 1 ic] 36)) = W at *
  generalize w6.heap.size = q at *
  have zz : Hid (∀ W', Frm (Ft lab2) W W' → W'.cell? ⟨q, 0, none⟩ = some (.slice (some ⟨g, 0, none⟩) 1 ic) ∧ W'.cell? ⟨g, 1, none⟩ = some (.slice p3 3 c3) ∧ W'.cell? ⟨0, 0, none⟩ = some (.iface 228 (.pointer (some (eb 9)))) ∧
      (convert 22 9 (.slice p1 3 c1)).run Tryz.prog W' = .ok (.string ⟨#[1, 2, 3]⟩) W' ∧ (convert 22 9 (.slice p3 3 c3)).run Tryz.prog W' = .ok (.string ⟨#[1, 2, 3]⟩) W') := by
    refine Lib.hid fun W' hf => ⟨?_, ?_, ?_, ?_, ?_⟩
    · rw [hf.cell hq nq]; exact bt
    · rw [hf.cell (World.block_lt_of_cell? _ _ k17) ng]; exact k17
    · exact (LV7.out.ers.frm hf LV7.out.base).there
    · exact own_string Tryz.underlying22 Tryz.underlying5 Tryz.underlying9 (own_frm_off hr7 hf (fun k hk => nr k (own_low hr7 hk).1))
    · exact own_string Tryz.underlying22 Tryz.underlying5 Tryz.underlying9 (own_frm_off hd7 hf (fun k hk => nr k (by have := (own_low hd7 hk).1; omega)))
  have S0 := zz.out W (Frm.refl _ _)
  have D0 := zz.out W.drew (Frm.refl _ _).drew
  have KEY8 : Hid (∀ W', Frm (fun _ => False) W W' → Calls Tryz.prog 31 #[.pointer (some ⟨B + 2, 0, none⟩)] W' fun e w' => ∃ A c, e = .returned (.agg #[.slice A 0 c]) ∧ Frm (fun _ => False) W w') := by
    refine Lib.hid fun W' hf => (lives_safe_calls (LV7.out.frm hf)).mono ?_
    rintro e w' ⟨A, c, rfl, h⟩
    exact ⟨A, c, rfl, hf.trans h (fun _ _ h => h)⟩
  have KEY9 : Hid (∀ W', Frm (fun _ => False) W W' → Calls Tryz.prog 12 #[.pointer (some ⟨B + 2, 0, none⟩), .string ⟨#[97]⟩] W' fun e w' => e = .returned (.iface 228 (.pointer (some (eb 9)))) ∧ Frm (Ft lab2) W w') := by
    refine Lib.hid fun W' hf => (lives_there_calls (LV7.out.frm hf)).mono ?_
    rintro e w' ⟨rfl, h⟩
    exact ⟨rfl, (hf.mono fun _ _ h => h.elim).trans h (fun _ _ h => h)⟩
  have hfin : Hid (∀ W', Frm (Ft lab2) W W' → Frm (fun _ => False) w W') := Lib.hid fun W' hf => (hf7.out.trans hf (fun _ _ h => LV7.out.base _ h)).mono fun i hi h => by have := hBw.out; omega
  clear hf7 LV7 hr7 hd7 nr
  have heql := err_eql
  have hfld : ∀ (A : Option Addr) (c : Nat) (W : World), (Instr.field 36 (.agg #[.slice A 0 c]) 0).run Tryz.prog W = .ok (.slice A 0 c) W := by intro A c W; rfl
  go_region_held3 (fun w' => w'.cell? ⟨q, 0, none⟩ = some (.slice (some ⟨g, 0, none⟩) 1 ic) ∧ w'.cell? ⟨g, 1, none⟩ = some (.slice p3 3 c3) ∧ w'.cell? ⟨0, 0, none⟩ = some (.iface 228 (.pointer (some (eb 9)))) ∧
      (convert 22 9 (.slice p1 3 c1)).run Tryz.prog w' = .ok (.string ⟨#[1, 2, 3]⟩) w' ∧ (convert 22 9 (.slice p3 3 c3)).run Tryz.prog w' = .ok (.string ⟨#[1, 2, 3]⟩) w')
    (first | exact S0 | exact D0 | exact zz.out _ HX7.out | exact zz.out _ HX8.out | go_keep)
    (first
      | (go_at_call 31; (with_reducible refine (KEY8.out _ (by first | exact Frm.refl _ _ | exact (Frm.refl _ _).drew)).mono ?_); rintro e w7 ⟨sA, sc, rfl, f7⟩; have HX7 := Lib.hid (f7.mono (G := Ft lab2) fun _ _ h => h.elim); have HY7 := Lib.hid f7; clear f7)
      | (go_at_call 12; (with_reducible refine (KEY9.out _ HY7.out).mono ?_); rintro e w8 ⟨rfl, f8⟩; have HX8 := Lib.hid f8; clear f8))
  all_goals
    go_wp2
    first | go_ret3 | go_ret
    exact ⟨rfl, hfin.out _ HX8.out⟩
end Go.Proofs.YtglhedahannjiaaGreatDoor.Dw
