/- For every input WindowSums answers true, and each argument reads afterwards as it read before: no condition. -/
import Derived.Test.YtocchdbmeokmhaaRows
import Derived.Test.YtocchdbmeokmhaaPWinx
import Derived.Test.YtocchdbmeokmhaaWinLaws
import Derived.Test.YtocchdbmeokmhaaRead
import Derived.Test.YtocchdbmeokmhaaWSized
import Derived.WalkKit
import Derived.ProofKit
import Derived.OpenShut
import Derived.ShutString
import Derived.ChangeOld
import Derived.Below
import Derived.SizedLaws
import Derived.Carry
namespace Go.Proofs.Ytocchdbmeokmhaa.windowSums
open Go.ChangeShapes Go.WideShapes Go.ChangeAt Go.RowKit Go.Proofs.Ytocchdbmeokmhaa.Read Go.Proofs.Ytocchdbmeokmhaa.WinPure Go.Proofs.Ytocchdbmeokmhaa.PWin Go.Proofs.YtocchdbmeokmhaaW.PrintWords
set_option linter.unusedVariables false
set_option linter.unusedSimpArgs false
theorem own : ownKnob Try.prog.godebug = none := by kernel_rfl
theorem laidOut : laidOutB Try.prog = true := by kernel_rfl
theorem wfU {x : Int} (h : (Lit.int .u64 x).wf = true) : U x := by simp [Lit.wf, IntKind.min, IntKind.max, IntKind.bits, IntKind.signed] at h; exact ⟨by omega, by omega⟩
def D38 {H : Type} : S38 → DataW H → Prop := fun x => DAgg (DC (DInt .u64) (D1 (DInt .u64))) (x.f0, x.f1)
theorem rdr38 {H : Type} : Rdr (H := H) Try.prog 38 k38 D38 :=
  rdr_iso _ (fun x => ⟨x.1, x.2⟩) (fun _ => rfl) (rdr_struct Try.underlying38 (by kernel_rfl) (flds_cons rfl (by kernel_rfl) (rdr_int Try.underlying25) rfl (flds_one rfl (by kernel_rfl) (rdr_int Try.underlying25))))
theorem D38_wf {H : Type} {x : S38} {d : DataW H} (h : D38 x d) : (Lit.int .u64 x.f0).wf = true ∧ (Lit.int .u64 x.f1).wf = true := by
  obtain ⟨_, rfl, ⟨_, _, rfl, h0, ⟨_, rfl, h1⟩⟩⟩ := h
  exact ⟨h0.2, h1.2⟩
set_option maxRecDepth 100000 in
theorem lifted (os : Os) (started : os.Started) (H : Type) (enc : TypeId × Value → H) :
    ReturnsInHanded {} Try.checked os 7 .any (Rows.windowSumsSpec.pre6 enc Try.prog Try.f7 Rows.windowSumsRow.domain false) (Rows.windowSumsSpec.post enc Try.prog Try.f7 false true false false) := by
  refine returnsInHanded_of_change_sized (C := Try.checked) own started (by kernel_rfl) Try.func7
    (ChangeSpec.witness6 (enc := enc) (C := Try.checked) false ⟨#[], #[.int .u64 0, .int .u64 0, .slice none 0 0], []⟩ 8 (by kernel_rfl) (by kernel_rfl) (by kernel_rfl) (by kernel_rfl)) ?_
  intro W base args ds gs before hval0 hW hcnd hsz0 _
  have hsz : (DataW.weightsEach Try.prog (Try.f7.params.toList ++ Rows.windowSumsSpec.plain.varTypes Try.prog) (ds ++ gs)).all (· ≤ reachBytes) = true := hsz0
  have hval : ∀ (j : Nat) t v, Try.f7.params[j]? = some t → args[j]? = some v → Value.okWide Try.prog W .any base t v := hval0
  have hW' := hW
  obtain ⟨p, q, hA0, hV, rfl, hfz, hnd⟩ := hW
  have hA : DataW.TrodAll enc Try.prog W 0 (fun _ => true) true Try.f7.params.toList args.toList ds p := hA0
  rw [Try.params7] at hA hval hsz
  obtain ⟨v0, vs0, d0, ds0, p0, q0, hargs, rfl, rfl, h0, r0⟩ := trodAll_cons hA
  obtain ⟨v1, vs1, d1, ds1, p1, q1, rfl, rfl, rfl, h1, r1⟩ := trodAll_cons r0
  obtain ⟨v2, vs2, d2, ds2, p2, q2, rfl, rfl, rfl, h2, r2⟩ := trodAll_cons r1
  obtain ⟨rfl, rfl, rfl⟩ := trodAll_nil r2
  obtain rfl : args = #[v0, v1, v2] := by cases args; simp_all
  obtain ⟨rfl, rfl⟩ := trodVars_none hV
  have k0 := h0
  have lt0 : ∀ x ∈ p0, x.block < W.heap.size := by obtain ⟨m, hm⟩ := k0; exact DataW.trod_lt m _ _ _ hm
  obtain ⟨a0, rfl, rfl, rfl, w0⟩ := open_int Try.underlying25 (hval 0 25 v0 rfl rfl) h0
  have k1 := h1
  have lt1 : ∀ x ∈ p1, x.block < W.heap.size := by obtain ⟨m, hm⟩ := k1; exact DataW.trod_lt m _ _ _ hm
  obtain ⟨a1, rfl, rfl, rfl, w1⟩ := open_int Try.underlying25 (hval 1 25 v1 rfl rfl) h1
  have k2 := h2
  have lt2 : ∀ x ∈ p2, x.block < W.heap.size := by obtain ⟨m, hm⟩ := k2; exact DataW.trod_lt m _ _ _ hm
  obtain ⟨A2, c2, l2, rfl, lc2, C2, dd2⟩ := open_sl (rdr_slice Try.underlying36 (by kernel_rfl) rdr38) Try.underlying36 (hval 2 36 v2 rfl rfl) h2
  have y2 : l2.length * 16 ≤ 140737488351232 := by
    rcases dd2.2 with ⟨rfl, _⟩ | ⟨es, sp, rfl, hes, _⟩
    · simp
    · have z := sized_slice hsz (j := 2) (t := 36) rfl rfl Try.underlying36
      rw [show Try.prog.bytesOf 38 = 16 by kernel_rfl] at z
      have : reachBytes = 140737488351232 := by decide
      rw [← hes]
      rw [Nat.add_mul] at z
      omega
  have w2 : ∀ x ∈ l2, (Lit.int .u64 x.f0).wf = true ∧ (Lit.int .u64 x.f1).wf = true := by
    intro x hx
    obtain ⟨j, hj⟩ := List.getElem?_of_mem hx
    rcases dd2.2 with ⟨rfl, _⟩ | ⟨es, sp, rfl, hes, hD⟩
    · simp at hj
    · have hjl := (List.getElem?_eq_some_iff.1 hj).1
      exact D38_wf (hD j x _ hj (List.getElem?_eq_getElem (by omega)))
  clear hA0 hval0 hsz0 hsz
  obtain ⟨k, h⟩ := sums_f a0 a1 (wfU w0) (wfU w1) l2 (fun x hx => ⟨wfU (w2 x hx).1, wfU (w2 x hx).2⟩) (by omega)
  refine (PWin.turnstilelaw05_WindowSums.calls k a0 a1 _ _ l2 true W C2 lc2 h).mono fun e W' ⟨he, bel⟩ => ?_
  subst he
  exact ⟨_, rfl, _, _, _, [], _, [], hW', trodAll_mk1 (shut_bool Try.underlying4 _), (trodAll_cons_mk (Below.trod laidOut (by kernel_rfl) (of_decide_eq_true (by kernel_rfl)) k0 bel lt0) (trodAll_cons_mk (Below.trod laidOut (by kernel_rfl) (of_decide_eq_true (by kernel_rfl)) k1 bel lt1) (trodAll_cons_mk (Below.trod laidOut (by kernel_rfl) (of_decide_eq_true (by kernel_rfl)) k2 bel lt2) trodAll_mk0))), rfl, bel.frame _, fun h => by cases h⟩
theorem over : Rows.windowSumsRow.holds Try.pinned (OpenSpec.ofChange Rows.windowSumsSpec) :=
  OpenClaim.holds_of_wide 7 Try.f7 rfl rfl rfl rfl rfl rfl rfl ⟨rfl, rfl, rfl, rfl, rfl⟩ rfl rfl rfl rfl rfl (by kernel_rfl) Try.func7 (by kernel_rfl)
    (of_decide_eq_true (by kernel_rfl)) (by unfold Func.isWrapper; first | (rw [if_pos (by decide +kernel)]; kernel_rfl) | (rw [if_neg (by decide +kernel)]; exact ⟨rfl, rfl⟩))
    (fun os started H enc _ => lifted os started H enc)
theorem proved : Rows.WindowSumsSaid := over
#print axioms proved
end Go.Proofs.Ytocchdbmeokmhaa.windowSums
namespace Go.Proofs.Ytocchdbmeokmhaa
/-- The row, under a short name, for the claim. -/
theorem windowSums_holds : Rows.WindowSumsSaid := windowSums.proved
end Go.Proofs.Ytocchdbmeokmhaa
