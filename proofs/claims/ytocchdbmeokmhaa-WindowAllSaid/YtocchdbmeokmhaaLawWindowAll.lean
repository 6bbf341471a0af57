/- For every input WindowAll answers true, and each argument reads afterwards as it read before: no condition. -/
import Derived.Test.YtocchdbmeokmhaaRows
import Derived.Test.YtocchdbmeokmhaaPWinx
import Derived.Test.YtocchdbmeokmhaaWinLaws
import Derived.Test.YtocchdbmeokmhaaRead
import Derived.Test.YtocchdbmeokmhaaWSized
import Derived.WalkKit
import Derived.ProofKit
import Derived.OpenShut
import Derived.ShutString
import Derived.ChangeOld
import Derived.Below
import Derived.SizedLaws
import Derived.Carry
namespace Go.Proofs.Ytocchdbmeokmhaa.windowAll
open Go.ChangeShapes Go.WideShapes Go.ChangeAt Go.RowKit Go.Proofs.Ytocchdbmeokmhaa.Read Go.Proofs.Ytocchdbmeokmhaa.WinPure Go.Proofs.Ytocchdbmeokmhaa.PWin Go.Proofs.YtocchdbmeokmhaaW.PrintWords
set_option linter.unusedVariables false
set_option linter.unusedSimpArgs false
theorem own : ownKnob Try.prog.godebug = none := by kernel_rfl
theorem laidOut : laidOutB Try.prog = true := by kernel_rfl
theorem wfU {x : Int} (h : (Lit.int .u64 x).wf = true) : U x := by simp [Lit.wf, IntKind.min, IntKind.max, IntKind.bits, IntKind.signed] at h; exact ⟨by omega, by omega⟩
def D27 {H : Type} : S27 → DataW H → Prop := fun x => DAgg (DC (DInt .i64) (DC (DInt .u64) (DC (DInt .u64) (DC (DInt .u64) (DC (DInt .u64) (DC (DInt .u64) (D1 (DInt .u64)))))))) (x.f0, x.f1, x.f2, x.f3, x.f4, x.f5, x.f6)
theorem rdr27 {H : Type} : Rdr (H := H) Try.prog 27 k27 D27 :=
  rdr_iso _ (fun x => ⟨x.1, x.2.1, x.2.2.1, x.2.2.2.1, x.2.2.2.2.1, x.2.2.2.2.2.1, x.2.2.2.2.2.2⟩) (fun _ => rfl) (rdr_struct Try.underlying27 (by kernel_rfl) (flds_cons rfl (by kernel_rfl) (rdr_int Try.underlying3) rfl (flds_cons rfl (by kernel_rfl) (rdr_int Try.underlying25) rfl (flds_cons rfl (by kernel_rfl) (rdr_int Try.underlying25) rfl (flds_cons rfl (by kernel_rfl) (rdr_int Try.underlying25) rfl (flds_cons rfl (by kernel_rfl) (rdr_int Try.underlying25) rfl (flds_cons rfl (by kernel_rfl) (rdr_int Try.underlying25) rfl (flds_one rfl (by kernel_rfl) (rdr_int Try.underlying25)))))))))
theorem D27_wf {H : Type} {x : S27} {d : DataW H} (h : D27 x d) : (Lit.int .i64 x.f0).wf = true ∧ (Lit.int .u64 x.f1).wf = true ∧ (Lit.int .u64 x.f2).wf = true ∧ (Lit.int .u64 x.f3).wf = true ∧ (Lit.int .u64 x.f4).wf = true ∧ (Lit.int .u64 x.f5).wf = true ∧ (Lit.int .u64 x.f6).wf = true := by
  obtain ⟨_, rfl, ⟨_, _, rfl, h0, ⟨_, _, rfl, h1, ⟨_, _, rfl, h2, ⟨_, _, rfl, h3, ⟨_, _, rfl, h4, ⟨_, _, rfl, h5, ⟨_, rfl, h6⟩⟩⟩⟩⟩⟩⟩⟩ := h
  exact ⟨h0.2, h1.2, h2.2, h3.2, h4.2, h5.2, h6.2⟩
set_option maxRecDepth 100000 in
theorem lifted (os : Os) (started : os.Started) (H : Type) (enc : TypeId × Value → H) :
    ReturnsInHanded {} Try.checked os 3 .any (Rows.windowAllSpec.pre6 enc Try.prog Try.f3 Rows.windowAllRow.domain false) (Rows.windowAllSpec.post enc Try.prog Try.f3 false true false false) := by
  refine returnsInHanded_of_change_sized (C := Try.checked) own started (by kernel_rfl) Try.func3
    (ChangeSpec.witness6 (enc := enc) (C := Try.checked) false ⟨#[], #[.slice none 0 0], []⟩ 8 (by kernel_rfl) (by kernel_rfl) (by kernel_rfl) (by kernel_rfl)) ?_
  intro W base args ds gs before hval0 hW hcnd hsz0 _
  have hsz : (DataW.weightsEach Try.prog (Try.f3.params.toList ++ Rows.windowAllSpec.plain.varTypes Try.prog) (ds ++ gs)).all (· ≤ reachBytes) = true := hsz0
  have hval : ∀ (j : Nat) t v, Try.f3.params[j]? = some t → args[j]? = some v → Value.okWide Try.prog W .any base t v := hval0
  have hW' := hW
  obtain ⟨p, q, hA0, hV, rfl, hfz, hnd⟩ := hW
  have hA : DataW.TrodAll enc Try.prog W 0 (fun _ => true) true Try.f3.params.toList args.toList ds p := hA0
  rw [Try.params3] at hA hval hsz
  obtain ⟨v0, vs0, d0, ds0, p0, q0, hargs, rfl, rfl, h0, r0⟩ := trodAll_cons hA
  obtain ⟨rfl, rfl, rfl⟩ := trodAll_nil r0
  obtain rfl : args = #[v0] := by cases args; simp_all
  obtain ⟨rfl, rfl⟩ := trodVars_none hV
  have k0 := h0
  have lt0 : ∀ x ∈ p0, x.block < W.heap.size := by obtain ⟨m, hm⟩ := k0; exact DataW.trod_lt m _ _ _ hm
  obtain ⟨A0, c0, l0, rfl, lc0, C0, dd0⟩ := open_sl (rdr_slice Try.underlying22 (by kernel_rfl) rdr27) Try.underlying22 (hval 0 22 v0 rfl rfl) h0
  have y0 : l0.length * 56 ≤ 140737488351232 := by
    rcases dd0.2 with ⟨rfl, _⟩ | ⟨es, sp, rfl, hes, _⟩
    · simp
    · have z := sized_slice hsz (j := 0) (t := 22) rfl rfl Try.underlying22
      rw [show Try.prog.bytesOf 27 = 56 by kernel_rfl] at z
      have : reachBytes = 140737488351232 := by decide
      rw [← hes]
      rw [Nat.add_mul] at z
      omega
  have w0 : ∀ x ∈ l0, (Lit.int .i64 x.f0).wf = true ∧ (Lit.int .u64 x.f1).wf = true ∧ (Lit.int .u64 x.f2).wf = true ∧ (Lit.int .u64 x.f3).wf = true ∧ (Lit.int .u64 x.f4).wf = true ∧ (Lit.int .u64 x.f5).wf = true ∧ (Lit.int .u64 x.f6).wf = true := by
    intro x hx
    obtain ⟨j, hj⟩ := List.getElem?_of_mem hx
    rcases dd0.2 with ⟨rfl, _⟩ | ⟨es, sp, rfl, hes, hD⟩
    · simp at hj
    · have hjl := (List.getElem?_eq_some_iff.1 hj).1
      exact D27_wf (hD j x _ hj (List.getElem?_eq_getElem (by omega)))
  clear hA0 hval0 hsz0 hsz
  obtain ⟨k, h⟩ := all_f l0 (fun x hx => by have w0 := w0 x hx; exact ⟨wfU w0.2.1, wfU w0.2.2.1, wfU w0.2.2.2.1, wfU w0.2.2.2.2.1, wfU w0.2.2.2.2.2.1, wfU w0.2.2.2.2.2.2⟩) (by omega)
  refine (PWin.turnstilelaw05_WindowAll.calls k _ _ l0 true W C0 lc0 h).mono fun e W' ⟨he, bel⟩ => ?_
  subst he
  exact ⟨_, rfl, _, _, _, [], _, [], hW', trodAll_mk1 (shut_bool Try.underlying4 _), (trodAll_cons_mk (Below.trod laidOut (by kernel_rfl) (of_decide_eq_true (by kernel_rfl)) k0 bel lt0) trodAll_mk0), rfl, bel.frame _, fun h => by cases h⟩
theorem over : Rows.windowAllRow.holds Try.pinned (OpenSpec.ofChange Rows.windowAllSpec) :=
  OpenClaim.holds_of_wide 3 Try.f3 rfl rfl rfl rfl rfl rfl rfl ⟨rfl, rfl, rfl, rfl, rfl⟩ rfl rfl rfl rfl rfl (by kernel_rfl) Try.func3 (by kernel_rfl)
    (of_decide_eq_true (by kernel_rfl)) (by unfold Func.isWrapper; first | (rw [if_pos (by decide +kernel)]; kernel_rfl) | (rw [if_neg (by decide +kernel)]; exact ⟨rfl, rfl⟩))
    (fun os started H enc _ => lifted os started H enc)
theorem proved : Rows.WindowAllSaid := over
#print axioms proved
end Go.Proofs.Ytocchdbmeokmhaa.windowAll
namespace Go.Proofs.Ytocchdbmeokmhaa
/-- The row, under a short name, for the claim. -/
theorem windowAll_holds : Rows.WindowAllSaid := windowAll.proved
end Go.Proofs.Ytocchdbmeokmhaa
