/- A part of the proof of diskSectors_holds: Ew. No condition. -/
import Derived.ProofKit
import Derived.OpenShut
import Derived.ShutString
import Derived.ChangeOld
import Derived.Below
import Derived.SizedLaws
import Derived.Carry
import Derived.LaidLaws
import Derived.Deep.DeepHandedRow
import Derived.Test.YtglhedahannjiaaGreatDoorRows
import Derived.Test.YtglhedahannjiaaGreatDoorCards
import Derived.Test.YtglhedahannjiaaGreatDoorTie
import Derived.Test.YtglhedahannjiaaGreatDoorC20

/- DiskSectors: for every input it answers true. -/
namespace Go.Proofs.YtglhedahannjiaaGreatDoor.diskSectors
open Go.ChangeShapes Go.WideShapes Go.ChangeAt Go.RowKit Go.Proofs.YtglhedahannjiaaGreatDoor.Read Go.Proofs.YtglhedahannjiaaGreatDoor.Dm Go.Proofs.YtglhedahannjiaaGreatDoor.Da Go.Proofs.YtglhedahannjiaaGreatDoor.Dw Go.Proofs.YtglhedahannjiaaGreatDoorW.PrintWords
set_option linter.unusedVariables false
set_option linter.unusedSimpArgs false
theorem own : ownKnob Tryz.prog.godebug = none := by kernel_rfl
theorem laidOut : laidOutB Tryz.prog = true := by kernel_rfl
theorem star : "*" ++ "errors.errorString" = "*errors.errorString" := by decide
theorem rowE (u : TypeId) (h : Tryz.prog.typeName? 3 u = some "*errors.errorString") : u = 228 :=
  typeName_ptr_named (nm := "errors.errorString") (by rw [star]; kernel_rfl) (by kernel_rfl) (by decide) u (by rw [star]; exact h)
theorem cellsE : Tryz.prog.cellsOf 252 = 1 := by kernel_rfl
theorem cellsS : Tryz.prog.cellsOf 9 = 1 := by kernel_rfl
set_option maxRecDepth 100000 in
theorem one {W : World} {n : String} {g0 : Nat} {text : List UInt8} {rest : List (String × DataW Unit)} {ps : List MemPlace} (hg0 : Tryz.prog.globalNamed n = some g0) (ht0 : (Tryz.prog.globals[g0]?).map (·.type) = some 28)
    (h : DataW.LaidVars Tryz.prog W ((n, .iface "*errors.errorString" (.ptr (.agg [.lit (.string text)]))) :: rest) ps)
    (hrows : ∀ b off, MemPlace.cell b off ∈ ps → (∃ c t, W.heap[b]? = some (.cells c t (0, 0))) ∧ ∀ u v, W.cell? ⟨b, off, none⟩ = some (.iface u v) → Value.okWide Tryz.prog W .any 0 u v) :
    ∃ a q, W.cell? ⟨g0, 0, none⟩ = some (.iface 228 (.pointer (some a))) ∧ (∃ c t, W.heap[a.block]? = some (.cells c t (0, 0))) ∧ DataW.LaidVars Tryz.prog W rest q ∧ ps = .cell g0 0 :: .cell a.block a.off :: q := by
  obtain ⟨g, t, cs, fuel, p, q, hg, ht, hv, hd, hq, e⟩ := h
  obtain rfl := Option.some.inj (hg0.symm.trans hg)
  obtain rfl := Option.some.inj (ht0.symm.trans ht)
  subst e
  obtain ⟨l⟩ := cs
  have ok : ∀ u v, l = [.iface u v] → Value.okWide Tryz.prog W .any 0 u v := fun u v e => by
    subst e
    exact (hrows g0 0 (by simp [MemPlace.row])).2 u v (by simpa using World.var?_cell hg0 hv 0)
  obtain ⟨a, s, rfl, hc, hs, hz, rfl⟩ := errorString_of_trod Tryz.underlying28 rowE Tryz.underlying228 Tryz.underlying252 rfl rfl Tryz.underlying9 cellsE cellsS hd ok
  exact ⟨a, q, by simpa using World.var?_cell hg0 hv 0, (hrows a.block a.off (by simp [MemPlace.row])).1, hq, by simp [MemPlace.row]⟩
theorem inj_of_nodup {α β : Type} {f : α → β} : ∀ {l : List α}, (l.map f).Nodup → ∀ x y, x ∈ l → y ∈ l → f x = f y → x = y
  | [], _, _, _, hx, _, _ => by cases hx
  | a :: l, h, x, y, hx, hy, e => by
    rw [List.map_cons, List.nodup_cons] at h
    rcases List.mem_cons.1 hx with hxa | hx2
    · rcases List.mem_cons.1 hy with hya | hy2
      · rw [hxa, hya]
      · exact absurd (List.mem_map.2 ⟨y, hy2, by rw [← e, hxa]⟩) h.1
    · rcases List.mem_cons.1 hy with hya | hy2
      · exact absurd (List.mem_map.2 ⟨x, hx2, by rw [e, hya]⟩) h.1
      · exact inj_of_nodup h.2 x y hx2 hy2 e
set_option maxRecDepth 100000 in
theorem errs_of_laid {W : World} (h : laidMet Tryz.prog Rows.diskSectorsRow.laid W) : ∃ ea, ErrsAt W.heap.size W ea [1, 6, 7, 8, 9, 15] := by
  obtain ⟨ps, hl, hnd, hrows⟩ := h
  obtain ⟨a1, q1, c1, b1, hl1, rfl⟩ := one (n := "turnstile/api.ErrArg") (g0 := 1) (by kernel_rfl) (by kernel_rfl) hl hrows
  obtain ⟨a2, q2, c2, b2, hl2, rfl⟩ := one (n := "turnstile/api.ErrIo") (g0 := 6) (by kernel_rfl) (by kernel_rfl) hl1 (fun b o hp => hrows b o (by simp [hp]))
  obtain ⟨a3, q3, c3, b3, hl3, rfl⟩ := one (n := "turnstile/api.ErrDown") (g0 := 4) (by kernel_rfl) (by kernel_rfl) hl2 (fun b o hp => hrows b o (by simp [hp]))
  obtain ⟨a4, q4, c4, b4, hl4, rfl⟩ := one (n := "turnstile/api.ErrGone") (g0 := 5) (by kernel_rfl) (by kernel_rfl) hl3 (fun b o hp => hrows b o (by simp [hp]))
  obtain ⟨a5, q5, c5, b5, hl5, rfl⟩ := one (n := "turnstile/api.ErrThere") (g0 := 0) (by kernel_rfl) (by kernel_rfl) hl4 (fun b o hp => hrows b o (by simp [hp]))
  obtain ⟨a6, q6, c6, b6, hl6, rfl⟩ := one (n := "turnstile/api.ErrNil") (g0 := 3) (by kernel_rfl) (by kernel_rfl) hl5 (fun b o hp => hrows b o (by simp [hp]))
  have hq : q6 = [] := hl6
  subst hq
  let ea : Nat → Addr := fun c => if c = 1 then a1 else if c = 6 then a2 else if c = 7 then a3 else if c = 8 then a4 else if c = 9 then a5 else a6
  have lt : ∀ {g : Nat} {v : Value}, W.cell? ⟨g, 0, none⟩ = some v → g < W.heap.size := fun h => World.block_lt_of_cell? W _ h
  have hsub : (([1, 6, 7, 8, 9, 15] : List Nat).map fun c => MemPlace.cell (ea c).block (ea c).off).Nodup := by
    refine hnd.sublist ?_
    exact .cons _ (.cons_cons _ (.cons _ (.cons_cons _ (.cons _ (.cons_cons _ (.cons _ (.cons_cons _ (.cons _ (.cons_cons _ (.cons _ (.cons_cons _ .slnil)))))))))))
  refine ⟨ea, ?_, ?_, ?_, ?_, ?_, fun c h => h⟩
  · intro c hc
    simp only [List.mem_cons, List.not_mem_nil, or_false] at hc
    rcases hc with rfl | rfl | rfl | rfl | rfl | rfl
    · exact c1
    · exact c2
    · exact c3
    · exact c4
    · exact c5
    · exact c6
  · intro c hc
    simp only [List.mem_cons, List.not_mem_nil, or_false] at hc
    rcases hc with rfl | rfl | rfl | rfl | rfl | rfl
    · exact b1
    · exact b2
    · exact b3
    · exact b4
    · exact b5
    · exact b6
  · intro c hc
    simp only [List.mem_cons, List.not_mem_nil, or_false] at hc
    have hb : ∀ {a : Addr}, (∃ c t, W.heap[a.block]? = some (.cells c t (0, 0))) → a.block < W.heap.size := fun ⟨_, _, h⟩ => (Array.getElem?_eq_some_iff.1 h).1
    rcases hc with rfl | rfl | rfl | rfl | rfl | rfl
    · exact hb b1
    · exact hb b2
    · exact hb b3
    · exact hb b4
    · exact hb b5
    · exact hb b6
  · intro c hc
    simp only [List.mem_cons, List.not_mem_nil, or_false] at hc
    rcases hc with rfl | rfl | rfl | rfl | rfl | rfl
    · exact lt c1
    · exact lt c2
    · exact lt c3
    · exact lt c4
    · exact lt c5
    · exact lt c6
  · intro a b ha hb e
    exact inj_of_nodup hsub a b ha hb (by show MemPlace.cell (ea a).block (ea a).off = MemPlace.cell (ea b).block (ea b).off; rw [e])
theorem bytes_wf {H : Type} {l : List Int} {d : DataW H} (h : DSlice (DInt .u8) l d) : ∀ x, x ∈ l → 0 ≤ x ∧ x < 256 := by
  intro x hx
  obtain ⟨j, hj⟩ := List.getElem?_of_mem hx
  rcases h.2 with ⟨rfl, _⟩ | ⟨es, sp, rfl, hes, hD⟩
  · simp at hj
  · have hjl := (List.getElem?_eq_some_iff.1 hj).1
    have := (hD j x _ hj (List.getElem?_eq_getElem (by omega))).2
    simp [Lit.wf, IntKind.min, IntKind.max, IntKind.bits, IntKind.signed] at this
    exact ⟨by omega, by omega⟩
set_option maxRecDepth 100000 in
/-- WHAT THE WALK GIVES, for every argument and every world that holds the errors. -/
theorem contract (H : Type) (enc : TypeId × Value → H) (W : World) (base : Nat) (args : Array Value) (ds gs : List (DataW H)) (before : List MemPlace)
    (hval : ∀ (j : Nat) t v, Tryz.f3.params[j]? = some t → args[j]? = some v → Value.okWide Tryz.prog W .any base t v)
    (hW : DataW.Whole enc Tryz.prog Tryz.f3.params.toList Rows.diskSectorsSpec.vars false W args.toList ds gs before)
    (hsz : (DataW.weightsEach Tryz.prog (Tryz.f3.params.toList ++ Rows.diskSectorsSpec.plain.varTypes Tryz.prog) (ds ++ gs)).all (· ≤ reachBytes) = true)
    (hL : laidMetH Tryz.prog Rows.diskSectorsRow.laid W) :
    Calls Tryz.prog 3 args W fun e W' => ∃ v, e = .returned v ∧ Rows.diskSectorsSpec.post enc Tryz.prog Tryz.f3 false true false false W args v W' := by
  have hL' : laidMet Tryz.prog Rows.diskSectorsRow.laid W := hL
  obtain ⟨ea, he⟩ := errs_of_laid hL'
  have hW' := hW
  obtain ⟨p, q, hA0, hV, rfl, hfz, hnd⟩ := hW
  have hA : DataW.TrodAll enc Tryz.prog W 0 (fun _ => true) true Tryz.f3.params.toList args.toList ds p := hA0
  rw [Tryz.params3] at hA hval hsz
  obtain ⟨v0, vs0, d0, ds0, p0, q0, hargs, rfl, rfl, h0, r0⟩ := trodAll_cons hA
  obtain ⟨v1, vs1, d1, ds1, p1, q1, rfl, rfl, rfl, h1, r1⟩ := trodAll_cons r0
  obtain ⟨v2, vs2, d2, ds2, p2, q2, rfl, rfl, rfl, h2, r2⟩ := trodAll_cons r1
  obtain ⟨rfl, rfl, rfl⟩ := trodAll_nil r2
  obtain rfl : args = #[v0, v1, v2] := by cases args; simp_all
  obtain ⟨rfl, rfl⟩ := trodVars_none hV
  have k0 := h0
  have lt0 : ∀ x ∈ p0, x.block < W.heap.size := by obtain ⟨m, hm⟩ := k0; exact DataW.trod_lt m _ _ _ hm
  have k1 := h1
  have lt1 : ∀ x ∈ p1, x.block < W.heap.size := by obtain ⟨m, hm⟩ := k1; exact DataW.trod_lt m _ _ _ hm
  have k2 := h2
  have lt2 : ∀ x ∈ p2, x.block < W.heap.size := by obtain ⟨m, hm⟩ := k2; exact DataW.trod_lt m _ _ _ hm
  obtain ⟨A0, c0, F, rfl, lc0, C0, dd0⟩ := open_sl (rdr_slice Tryz.underlying22 (by kernel_rfl) (rdr_int Tryz.underlying5)) Tryz.underlying22 (hval 0 22 v0 rfl rfl) h0
  obtain ⟨A1, c1, S, rfl, lc1, C1, dd1⟩ := open_sl (rdr_slice Tryz.underlying22 (by kernel_rfl) (rdr_int Tryz.underlying5)) Tryz.underlying22 (hval 1 22 v1 rfl rfl) h1
  obtain ⟨A2, c2, fs, rfl, lc2, C2, dd2⟩ := open_sl (rdr_slice Tryz.underlying23 (by kernel_rfl) (rdr_int Tryz.underlying3)) Tryz.underlying23 (hval 2 23 v2 rfl rfl) h2
  have y2 : fs.length ≤ 4611686018427387904 := by
    rcases dd2.2 with ⟨rfl, _⟩ | ⟨es, sp, rfl, hes, _⟩
    · simp
    · have z := sized_slice hsz (j := 2) (t := 23) rfl rfl Tryz.underlying23
      rw [show Tryz.prog.bytesOf 3 = 8 by kernel_rfl] at z
      have : reachBytes = 140737488351232 := by decide
      rw [← hes]
      rw [Nat.add_mul] at z
      omega
  have mx := maxLen_eq
  have w0 := dd0.1
  have w1 := dd1.1
  refine (law_sectors_all he F S fs (Kd.reads_of_C (enc := Value.int .u8) (d := (0 : Int)) (h1 := fun _ => rfl) C0) (Kd.reads_of_C (enc := Value.int .u8) (d := (0 : Int)) (h1 := fun _ => rfl) C1) (Kd.reads_of_C (enc := Value.int .i64) (d := (0 : Int)) (h1 := fun _ => rfl) C2) lc0 lc1 (bytes_wf dd0) (bytes_wf dd1) (by omega) (by omega) y2).mono fun e W' ⟨he', hf⟩ => ?_
  subst he'
  have bel : Below W.heap.size W W' := hf.below (fun _ h => h.elim) (Nat.le_refl _)
  exact ⟨_, rfl, _, _, _, [], _, [], hW', trodAll_mk1 (shut_bool Tryz.underlying4 _), (trodAll_cons_mk (Below.trod laidOut (by kernel_rfl) (of_decide_eq_true (by kernel_rfl)) k0 bel lt0) (trodAll_cons_mk (Below.trod laidOut (by kernel_rfl) (of_decide_eq_true (by kernel_rfl)) k1 bel lt1) (trodAll_cons_mk (Below.trod laidOut (by kernel_rfl) (of_decide_eq_true (by kernel_rfl)) k2 bel lt2) trodAll_mk0))), rfl, bel.frame _, fun h => by cases h⟩

/-- A WORLD FOR THE WITNESS: the settled one, with the six errors. -/
noncomputable def low : Nat := (World.holding Tryz.prog default ⟨#[], #[], []⟩).heap.size
def laidBlocks : Array Obj := #[.cells #[.string ⟨#[97, 110, 32, 97, 114, 103, 117, 109, 101, 110, 116, 32, 111, 117, 116, 115, 105, 100, 101, 32, 119, 104, 97, 116, 32, 116, 104, 101, 32, 99, 97, 108, 108, 32, 116, 97, 107, 101, 115]⟩] 252,
  .cells #[.string ⟨#[116, 104, 101, 32, 100, 105, 115, 107, 32, 102, 97, 105, 108, 101, 100]⟩] 252,
  .cells #[.string ⟨#[116, 104, 101, 32, 112, 111, 119, 101, 114, 32, 105, 115, 32, 111, 102, 102]⟩] 252,
  .cells #[.string ⟨#[110, 111, 32, 115, 117, 99, 104, 32, 102, 105, 108, 101]⟩] 252,
  .cells #[.string ⟨#[116, 104, 101, 114, 101, 32, 105, 115, 32, 115, 117, 99, 104, 32, 97, 32, 102, 105, 108, 101]⟩] 252,
  .cells #[.string ⟨#[110, 111, 32, 111, 98, 106, 101, 99, 116]⟩] 252]
def lay (g k : Nat) (h : Array Obj) (low : Nat) : Array Obj := h.modify g fun
  | .cells _ t frozen => .cells #[.iface 228 (.pointer (some ⟨low + k, 0, none⟩))] t frozen
  | o => o
noncomputable def laidWorld (os : Os) : World :=
  let w0 := World.holding Tryz.prog os ⟨laidBlocks, #[], []⟩
  { w0 with heap := lay 3 5 (lay 0 4 (lay 5 3 (lay 4 2 (lay 6 1 (lay 1 0 w0.heap low) low) low) low) low) low }
set_option maxRecDepth 100000 in
theorem laid_met (os : Os) : laidMet Tryz.prog Rows.diskSectorsRow.laid ((laidWorld os).forCall (fun _ _ => 0) ⟨#[], #[.slice none 0 0, .slice none 0 0, .slice none 0 0], []⟩).memory :=
  laidMet_of_run' 8 (by kernel_rfl) (by kernel_rfl)
set_option maxRecDepth 100000 in
theorem reads (os : Os) {H : Type} (enc : TypeId × Value → H) : ∃ places, DataW.whole enc Tryz.prog ((laidWorld os).forCall (fun _ _ => 0) ⟨#[], #[.slice none 0 0, .slice none 0 0, .slice none 0 0], []⟩).memory Tryz.f3.params.toList Rows.diskSectorsSpec.vars false #[Value.slice none 0 0, .slice none 0 0, .slice none 0 0].toList 8 = some ([.nil, .nil, .nil], [], places) :=
  ⟨[], by kernel_rfl⟩
set_option maxRecDepth 100000 in
theorem lifted (os : Os) (started : os.Started) (H : Type) (enc : TypeId × Value → H) (F : Stop.Interp) :
    ReturnsInHanded {} Tryz.checked os 3 .any ((OpenSpec.ofChange Rows.diskSectorsSpec).preRow enc Tryz.prog Tryz.f3 Rows.diskSectorsRow.domain false Rows.diskSectorsRow.laid) (((OpenSpec.ofChange Rows.diskSectorsSpec).at F).post enc Tryz.prog Tryz.f3 false true false false) := by
  obtain ⟨places, hx⟩ := reads os enc
  refine returnsInHanded_of_row (C := Tryz.checked) (s := OpenSpec.ofChange Rows.diskSectorsSpec) own started (by kernel_rfl) Tryz.func3
    (witness_row_at (enc := enc) (C := Tryz.checked) false (laidWorld os) #[.slice none 0 0, .slice none 0 0, .slice none 0 0] rfl (by kernel_rfl) (by kernel_rfl) (by kernel_rfl)
      (OpenSpec.preRow_of_cond 8 hx (by kernel_rfl) (fun k hk => by cases hk) (by kernel_rfl) (laid_met os))) ?_
  intro W base args ds gs before hval hW _ _ hsz hL _ _
  exact contract H enc W base args ds gs before hval hW hsz hL
set_option maxRecDepth 100000 in
theorem said : Rows.DiskSectorsSaid :=
  OpenClaim.holds_of_cond 3 Tryz.f3 rfl rfl rfl rfl rfl rfl rfl ⟨rfl, rfl, rfl, rfl, rfl⟩ rfl rfl rfl rfl rfl (by kernel_rfl) Tryz.func3 (by kernel_rfl)
    (of_decide_eq_true (by kernel_rfl)) (by unfold Func.isWrapper; first | (rw [if_pos (by decide +kernel)]; kernel_rfl) | (rw [if_neg (by decide +kernel)]; exact ⟨rfl, rfl⟩))
    (fun os started H enc _ F => by rw [OpenClaim.pre_eq_preRow]; exact lifted os started H enc F)
set_option maxRecDepth 100000 in
theorem plain (f : FuncId) (fn : Func) (hf : Tryz.pinned.checked.prog.funcNamed "turnstile/turnstilelaw07.DiskSectors" = some f) (hfn : Tryz.pinned.checked.prog.funcs[f]? = some fn) :
    true = Tryz.pinned.checked.prog.looks [] ∧ ∀ (j : Nat) t, fn.params[j]? = some t → Tryz.pinned.checked.prog.wantsStandIn t = false := by
  obtain rfl : f = 3 := Option.some.inj ((show Tryz.prog.funcNamed "turnstile/turnstilelaw07.DiskSectors" = some 3 by kernel_rfl).symm.trans hf) |>.symm
  obtain rfl : fn = Tryz.f3 := (Option.some.inj (Tryz.func3.symm.trans hfn)).symm
  refine ⟨by kernel_rfl, fun j t ht => ?_⟩
  rw [Tryz.params3] at ht
  have hm : t ∈ (#[22, 22, 23] : Array Nat) := Array.mem_of_getElem? ht
  simp only [List.mem_toArray, List.mem_cons, List.not_mem_nil, or_false] at hm
  rcases hm with rfl | rfl | rfl
  · exact (show Tryz.prog.wantsStandIn 22 = false by kernel_rfl)
  · exact (show Tryz.prog.wantsStandIn 22 = false by kernel_rfl)
  · exact (show Tryz.prog.wantsStandIn 23 = false by kernel_rfl)
/-- THE CARD. -/
theorem card : Rows.DiskSectorsCardSaid :=
  Claim7.holds_tied_plain_at .later [] _ _ _ _ said (fun _ h => by cases h) (by kernel_rfl) (fun _ h => by cases h) diskSectors_row_tie rfl ⟨rfl, rfl⟩ (by kernel_rfl) rfl plain (by kernel_rfl)
#print axioms card
end Go.Proofs.YtglhedahannjiaaGreatDoor.diskSectors
namespace Go.Proofs.YtglhedahannjiaaGreatDoor
/-- The card, under a short name, for the claim. -/
theorem diskSectors_holds : Rows.DiskSectorsCardSaid := diskSectors.card
end Go.Proofs.YtglhedahannjiaaGreatDoor
