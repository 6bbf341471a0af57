/- For every input WindowMost answers true, and each argument reads afterwards as it read before: no condition. -/
import Derived.Test.YtocchdbmeokmhaaRows
import Derived.Test.YtocchdbmeokmhaaPWinx
import Derived.Test.YtocchdbmeokmhaaWinLaws
import Derived.Test.YtocchdbmeokmhaaRead
import Derived.Test.YtocchdbmeokmhaaWSized
import Derived.WalkKit
import Derived.ProofKit
import Derived.OpenShut
import Derived.ShutString
import Derived.ChangeOld
import Derived.Below
import Derived.SizedLaws
import Derived.Carry
namespace Go.Proofs.Ytocchdbmeokmhaa.windowMost
open Go.ChangeShapes Go.WideShapes Go.ChangeAt Go.RowKit Go.Proofs.Ytocchdbmeokmhaa.Read Go.Proofs.Ytocchdbmeokmhaa.WinPure Go.Proofs.Ytocchdbmeokmhaa.PWin Go.Proofs.YtocchdbmeokmhaaW.PrintWords
set_option linter.unusedVariables false
set_option linter.unusedSimpArgs false
theorem own : ownKnob Try.prog.godebug = none := by kernel_rfl
theorem laidOut : laidOutB Try.prog = true := by kernel_rfl
theorem wfU {x : Int} (h : (Lit.int .u64 x).wf = true) : U x := by simp [Lit.wf, IntKind.min, IntKind.max, IntKind.bits, IntKind.signed] at h; exact ⟨by omega, by omega⟩
def D27 {H : Type} : S27 → DataW H → Prop := fun x => DAgg (DC (DInt .i64) (DC (DInt .u64) (DC (DInt .u64) (DC (DInt .u64) (DC (DInt .u64) (DC (DInt .u64) (D1 (DInt .u64)))))))) (x.f0, x.f1, x.f2, x.f3, x.f4, x.f5, x.f6)
theorem rdr27 {H : Type} : Rdr (H := H) Try.prog 27 k27 D27 :=
  rdr_iso _ (fun x => ⟨x.1, x.2.1, x.2.2.1, x.2.2.2.1, x.2.2.2.2.1, x.2.2.2.2.2.1, x.2.2.2.2.2.2⟩) (fun _ => rfl) (rdr_struct Try.underlying27 (by kernel_rfl) (flds_cons rfl (by kernel_rfl) (rdr_int Try.underlying3) rfl (flds_cons rfl (by kernel_rfl) (rdr_int Try.underlying25) rfl (flds_cons rfl (by kernel_rfl) (rdr_int Try.underlying25) rfl (flds_cons rfl (by kernel_rfl) (rdr_int Try.underlying25) rfl (flds_cons rfl (by kernel_rfl) (rdr_int Try.underlying25) rfl (flds_cons rfl (by kernel_rfl) (rdr_int Try.underlying25) rfl (flds_one rfl (by kernel_rfl) (rdr_int Try.underlying25)))))))))
theorem D27_wf {H : Type} {x : S27} {d : DataW H} (h : D27 x d) : (Lit.int .i64 x.f0).wf = true ∧ (Lit.int .u64 x.f1).wf = true ∧ (Lit.int .u64 x.f2).wf = true ∧ (Lit.int .u64 x.f3).wf = true ∧ (Lit.int .u64 x.f4).wf = true ∧ (Lit.int .u64 x.f5).wf = true ∧ (Lit.int .u64 x.f6).wf = true := by
  obtain ⟨_, rfl, ⟨_, _, rfl, h0, ⟨_, _, rfl, h1, ⟨_, _, rfl, h2, ⟨_, _, rfl, h3, ⟨_, _, rfl, h4, ⟨_, _, rfl, h5, ⟨_, rfl, h6⟩⟩⟩⟩⟩⟩⟩⟩ := h
  exact ⟨h0.2, h1.2, h2.2, h3.2, h4.2, h5.2, h6.2⟩
set_option maxRecDepth 100000 in
theorem lifted (os : Os) (started : os.Started) (H : Type) (enc : TypeId × Value → H) :
    ReturnsInHanded {} Try.checked os 5 .any (Rows.windowMostSpec.pre6 enc Try.prog Try.f5 Rows.windowMostRow.domain false) (Rows.windowMostSpec.post enc Try.prog Try.f5 false true false false) := by
  refine returnsInHanded_of_change_sized (C := Try.checked) own started (by kernel_rfl) Try.func5
    (ChangeSpec.witness6 (enc := enc) (C := Try.checked) false ⟨#[], #[.agg #[.int .i64 0, .int .u64 0, .int .u64 0, .int .u64 0, .int .u64 0, .int .u64 0, .int .u64 0], .int .u64 0], []⟩ 8 (by kernel_rfl) (by kernel_rfl) (by kernel_rfl) (by kernel_rfl)) ?_
  intro W base args ds gs before hval0 hW hcnd hsz0 _
  have hsz : (DataW.weightsEach Try.prog (Try.f5.params.toList ++ Rows.windowMostSpec.plain.varTypes Try.prog) (ds ++ gs)).all (· ≤ reachBytes) = true := hsz0
  have hval : ∀ (j : Nat) t v, Try.f5.params[j]? = some t → args[j]? = some v → Value.okWide Try.prog W .any base t v := hval0
  have hW' := hW
  obtain ⟨p, q, hA0, hV, rfl, hfz, hnd⟩ := hW
  have hA : DataW.TrodAll enc Try.prog W 0 (fun _ => true) true Try.f5.params.toList args.toList ds p := hA0
  rw [Try.params5] at hA hval hsz
  obtain ⟨v0, vs0, d0, ds0, p0, q0, hargs, rfl, rfl, h0, r0⟩ := trodAll_cons hA
  obtain ⟨v1, vs1, d1, ds1, p1, q1, rfl, rfl, rfl, h1, r1⟩ := trodAll_cons r0
  obtain ⟨rfl, rfl, rfl⟩ := trodAll_nil r1
  obtain rfl : args = #[v0, v1] := by cases args; simp_all
  obtain ⟨rfl, rfl⟩ := trodVars_none hV
  have k0 := h0
  have lt0 : ∀ x ∈ p0, x.block < W.heap.size := by obtain ⟨m, hm⟩ := k0; exact DataW.trod_lt m _ _ _ hm
  obtain ⟨cs0, x0, rfl, kk0, dd0⟩ := open_st rdr27 Try.underlying27 (hval 0 27 v0 rfl rfl) h0
  obtain rfl : cs0 = #[.int .i64 x0.f0, .int .u64 x0.f1, .int .u64 x0.f2, .int .u64 x0.f3, .int .u64 x0.f4, .int .u64 x0.f5, .int .u64 x0.f6] := by have e := k27_open kk0; cases cs0; simp at e; rw [e]
  have w0 := D27_wf dd0
  have k1 := h1
  have lt1 : ∀ x ∈ p1, x.block < W.heap.size := by obtain ⟨m, hm⟩ := k1; exact DataW.trod_lt m _ _ _ hm
  obtain ⟨a1, rfl, rfl, rfl, w1⟩ := open_int Try.underlying25 (hval 1 25 v1 rfl rfl) h1
  clear hA0 hval0 hsz0 hsz
  obtain ⟨k, h⟩ : ∃ k, PWin.turnstilelaw05_WindowMost.f k x0.f0 x0.f1 x0.f2 x0.f3 x0.f4 x0.f5 x0.f6 a1 = some true := ⟨_, most_f x0.f0 x0.f1 x0.f2 x0.f3 x0.f4 x0.f5 x0.f6 a1 (wfU w0.2.1) (wfU w0.2.2.1) (wfU w0.2.2.2.1) (wfU w0.2.2.2.2.1) (wfU w0.2.2.2.2.2.1) (wfU w1)⟩
  refine (PWin.turnstilelaw05_WindowMost.calls k x0.f0 x0.f1 x0.f2 x0.f3 x0.f4 x0.f5 x0.f6 a1 true W h).mono fun e W' ⟨he, bel⟩ => ?_
  subst he
  exact ⟨_, rfl, _, _, _, [], _, [], hW', trodAll_mk1 (shut_bool Try.underlying4 _), (trodAll_cons_mk (Below.trod laidOut (by kernel_rfl) (of_decide_eq_true (by kernel_rfl)) k0 bel lt0) (trodAll_cons_mk (Below.trod laidOut (by kernel_rfl) (of_decide_eq_true (by kernel_rfl)) k1 bel lt1) trodAll_mk0)), rfl, bel.frame _, fun h => by cases h⟩
theorem over : Rows.windowMostRow.holds Try.pinned (OpenSpec.ofChange Rows.windowMostSpec) :=
  OpenClaim.holds_of_wide 5 Try.f5 rfl rfl rfl rfl rfl rfl rfl ⟨rfl, rfl, rfl, rfl, rfl⟩ rfl rfl rfl rfl rfl (by kernel_rfl) Try.func5 (by kernel_rfl)
    (of_decide_eq_true (by kernel_rfl)) (by unfold Func.isWrapper; first | (rw [if_pos (by decide +kernel)]; kernel_rfl) | (rw [if_neg (by decide +kernel)]; exact ⟨rfl, rfl⟩))
    (fun os started H enc _ => lifted os started H enc)
theorem proved : Rows.WindowMostSaid := over
#print axioms proved
end Go.Proofs.Ytocchdbmeokmhaa.windowMost
namespace Go.Proofs.Ytocchdbmeokmhaa
/-- The row, under a short name, for the claim. -/
theorem windowMost_holds : Rows.WindowMostSaid := windowMost.proved
end Go.Proofs.Ytocchdbmeokmhaa
