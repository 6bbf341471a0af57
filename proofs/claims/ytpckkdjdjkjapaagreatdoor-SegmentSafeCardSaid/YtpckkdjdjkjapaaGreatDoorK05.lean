/- A part of the proof of segmentSafe_holds: RowSafe. No condition. -/
import Derived.Test.YtpckkdjdjkjapaaGreatDoorRows
import Derived.Test.YtpckkdjdjkjapaaGreatDoorCards
import Derived.Test.YtpckkdjdjkjapaaGreatDoorTie
import Derived.Test.YtpckkdjdjkjapaaGreatDoorK03
import Derived.Test.YtpckkdjdjkjapaaGreatDoorK04

/- SegmentSafe: for every input it answers true: its row and its card (printed by wip/tools/gen_row9.py). -/
namespace Go.Proofs.YtpckkdjdjkjapaaGreatDoor.segmentSafe
open Go.ChangeShapes Go.WideShapes Go.ChangeAt Go.RowKit Go.Proofs.YtpckkdjdjkjapaaGreatDoor.Read Go.Proofs.YtpckkdjdjkjapaaGreatDoor.Dm Go.Proofs.YtpckkdjdjkjapaaGreatDoor.Da Go.Proofs.YtpckkdjdjkjapaaGreatDoor.Dw Go.Proofs.YtpckkdjdjkjapaaGreatDoor.Row9s Go.Proofs.YtpckkdjdjkjapaaGreatDoorW.PrintWords
set_option linter.unusedVariables false
set_option linter.unusedSimpArgs false
set_option maxRecDepth 100000 in
set_option maxHeartbeats 1000000 in
/-- WHAT THE WALK GIVES, for every argument and every world that holds the tables and the errors. -/
theorem contract (H : Type) (enc : TypeId × Value → H) (W : World) (base : Nat) (args : Array Value) (ds gs : List (DataW H)) (before : List MemPlace)
    (hval : ∀ (j : Nat) t v, Tryz.f8.params[j]? = some t → args[j]? = some v → Value.okWide Tryz.prog W .any base t v)
    (hW : DataW.Whole enc Tryz.prog Tryz.f8.params.toList Rows.segmentSafeSpec.vars false W args.toList ds gs before)
    (hsz : (DataW.weightsEach Tryz.prog (Tryz.f8.params.toList ++ Rows.segmentSafeSpec.plain.varTypes Tryz.prog) (ds ++ gs)).all (· ≤ reachBytes) = true)
    (hL : laidMetH Tryz.prog Rows.segmentSafeRow.laid W) :
    Calls Tryz.prog 8 args W fun e W' => ∃ v, e = .returned v ∧ Rows.segmentSafeSpec.post enc Tryz.prog Tryz.f8 false true false false W args v W' := by
  have hL' : laidMet Tryz.prog Rows.segmentSafeRow.laid W := hL
  obtain ⟨eb, he, hv⟩ := laid9 hL'
  have hW' := hW
  obtain ⟨p, q, hA0, hV, rfl, hfz, hnd⟩ := hW
  have hA : DataW.TrodAll enc Tryz.prog W 0 (fun _ => true) true Tryz.f8.params.toList args.toList ds p := hA0
  rw [Tryz.params8] at hA hval hsz
  obtain ⟨v0, vs0, d0, ds0, p0, q0, hargs, rfl, rfl, h0, r0⟩ := trodAll_cons hA
  obtain ⟨rfl, rfl, rfl⟩ := trodAll_nil r0
  obtain rfl : args = #[v0] := by cases args; simp_all
  obtain ⟨rfl, rfl⟩ := trodVars_none hV
  have k0 := h0
  have lt0 : ∀ x ∈ p0, x.block < W.heap.size := by obtain ⟨m, hm⟩ := k0; exact DataW.trod_lt m _ _ _ hm
  obtain ⟨x0, x0A, x0c, x0gs, x0FA, x0fc, x0fails, x0cut, x0p, x0pc, x0fs, x0kk, rfl, x0w, x0ok, x0fa, x0fl, x0h, x0l⟩ := run_arg (hval 0 91 v0 rfl rfl) h0 (fits_arg hsz (j := 0) rfl rfl)
  refine (law_safe he hv (by decide) x0 x0w x0A x0c x0gs x0ok x0FA x0fc x0fails x0fa x0fl x0cut x0p x0pc x0fs x0kk x0h x0l).mono fun e W' ⟨he', hf⟩ => ?_
  subst he'
  have bel : Below W.heap.size W W' := hf.below (fun _ h => h.elim) (Nat.le_refl _)
  exact ⟨_, rfl, _, _, _, [], _, [], hW', trodAll_mk1 (shut_bool Tryz.underlying4 _), (trodAll_cons_mk (Below.trod laidOut (by kernel_rfl) (of_decide_eq_true (by kernel_rfl)) k0 bel lt0) trodAll_mk0), rfl, bel.frame _, fun h => by cases h⟩
set_option maxRecDepth 100000 in
theorem laid_met (os : Os) : laidMet Tryz.prog Rows.segmentSafeRow.laid ((laidWorld os).forCall (fun _ _ => 0) ⟨#[], #[.agg #[.int .u64 0, .slice none 0 0, .slice none 0 0, .int .i64 0, .slice none 0 0, .int .i64 0]], []⟩).memory :=
  laidMet_of_run' 8 (by kernel_rfl) (by kernel_rfl)
set_option maxRecDepth 100000 in
theorem reads (os : Os) {H : Type} (enc : TypeId × Value → H) : ∃ places, DataW.whole enc Tryz.prog ((laidWorld os).forCall (fun _ _ => 0) ⟨#[], #[.agg #[.int .u64 0, .slice none 0 0, .slice none 0 0, .int .i64 0, .slice none 0 0, .int .i64 0]], []⟩).memory Tryz.f8.params.toList Rows.segmentSafeSpec.vars false #[Value.agg #[.int .u64 0, .slice none 0 0, .slice none 0 0, .int .i64 0, .slice none 0 0, .int .i64 0]].toList 8 = some ([.agg [.lit (.int .u64 0), .nil, .nil, .lit (.int .i64 0), .agg [.nil, .lit (.int .i64 0)]]], [], places) :=
  ⟨[], by kernel_rfl⟩
set_option maxRecDepth 100000 in
theorem lifted (os : Os) (started : os.Started) (H : Type) (enc : TypeId × Value → H) (F : Stop.Interp) :
    ReturnsInHanded {} Tryz.checked os 8 .any ((OpenSpec.ofChange Rows.segmentSafeSpec).preRow enc Tryz.prog Tryz.f8 Rows.segmentSafeRow.domain false Rows.segmentSafeRow.laid) (((OpenSpec.ofChange Rows.segmentSafeSpec).at F).post enc Tryz.prog Tryz.f8 false true false false) := by
  obtain ⟨places, hx⟩ := reads os enc
  refine returnsInHanded_of_row (C := Tryz.checked) (s := OpenSpec.ofChange Rows.segmentSafeSpec) own started (by kernel_rfl) Tryz.func8
    (witness_row_at (enc := enc) (C := Tryz.checked) false (laidWorld os) #[.agg #[.int .u64 0, .slice none 0 0, .slice none 0 0, .int .i64 0, .slice none 0 0, .int .i64 0]] rfl (by kernel_rfl) (by kernel_rfl) (by kernel_rfl)
      (OpenSpec.preRow_of_cond 8 hx (by kernel_rfl) (fun k hk => by cases hk) (by kernel_rfl) (laid_met os))) ?_
  intro W base args ds gs before hval hW _ _ hsz hL _ _
  exact contract H enc W base args ds gs before hval hW hsz hL
set_option maxRecDepth 100000 in
theorem said : Rows.SegmentSafeSaid :=
  OpenClaim.holds_of_cond 8 Tryz.f8 rfl rfl rfl rfl rfl rfl rfl ⟨rfl, rfl, rfl, rfl, rfl⟩ rfl rfl rfl rfl rfl (by kernel_rfl) Tryz.func8 facts
    (of_decide_eq_true (by kernel_rfl)) (by unfold Func.isWrapper; first | (rw [if_pos (by decide +kernel)]; kernel_rfl) | (rw [if_neg (by decide +kernel)]; exact ⟨rfl, rfl⟩))
    (fun os started H enc _ F => by rw [OpenClaim.pre_eq_preRow]; exact lifted os started H enc F)
set_option maxRecDepth 100000 in
theorem plain (f : FuncId) (fn : Func) (hf : Tryz.pinned.checked.prog.funcNamed "turnstile/turnstilelaw09.SegmentSafe" = some f) (hfn : Tryz.pinned.checked.prog.funcs[f]? = some fn) :
    true = Tryz.pinned.checked.prog.looks [] ∧ ∀ (j : Nat) t, fn.params[j]? = some t → Tryz.pinned.checked.prog.wantsStandIn t = false := by
  obtain rfl : f = 8 := Option.some.inj ((show Tryz.prog.funcNamed "turnstile/turnstilelaw09.SegmentSafe" = some 8 by kernel_rfl).symm.trans hf) |>.symm
  obtain rfl : fn = Tryz.f8 := (Option.some.inj (Tryz.func8.symm.trans hfn)).symm
  refine ⟨by kernel_rfl, fun j t ht => ?_⟩
  rw [Tryz.params8] at ht
  have hm : t ∈ (#[91] : Array Nat) := Array.mem_of_getElem? ht
  simp only [List.mem_toArray, List.mem_cons, List.not_mem_nil, or_false] at hm
  rcases hm with rfl
  · exact (show Tryz.prog.wantsStandIn 91 = false by kernel_rfl)
/-- THE CARD. -/
theorem card : Rows.SegmentSafeCardSaid :=
  Claim7.holds_tied_plain_at .later [] _ _ _ _ said (fun _ h => by cases h) (by kernel_rfl) (fun _ h => by cases h) segmentSafe_row_tie rfl ⟨rfl, rfl⟩ (by kernel_rfl) rfl plain (by kernel_rfl)
#print axioms card
end Go.Proofs.YtpckkdjdjkjapaaGreatDoor.segmentSafe
namespace Go.Proofs.YtpckkdjdjkjapaaGreatDoor
/-- The card, under a short name, for the claim. -/
theorem segmentSafe_holds : Rows.SegmentSafeCardSaid := segmentSafe.card
end Go.Proofs.YtpckkdjdjkjapaaGreatDoor
