/- A part of the proof of diskKeptUpto_holds: Fo. No condition. -/
import Derived.ProofKit
import Derived.OpenShut
import Derived.ShutString
import Derived.ChangeOld
import Derived.Below
import Derived.SizedLaws
import Derived.Carry
import Derived.LaidLaws
import Derived.Deep.DeepHandedRow
import Derived.Test.YtglhedahannjiaaGreatDoorRows
import Derived.Test.YtglhedahannjiaaGreatDoorCards
import Derived.Test.YtglhedahannjiaaGreatDoorTie
import Derived.Test.YtglhedahannjiaaGreatDoorC31

/- The fifteen errors as a row's list lays them, and a world for the witnesses (printed by wip/tools/gen_row.py). -/
namespace Go.Proofs.YtglhedahannjiaaGreatDoor.Row7
open Go.ChangeShapes Go.WideShapes Go.ChangeAt Go.RowKit Go.Proofs.YtglhedahannjiaaGreatDoor.Read Go.Proofs.YtglhedahannjiaaGreatDoor.Dm Go.Proofs.YtglhedahannjiaaGreatDoor.Da Go.Proofs.YtglhedahannjiaaGreatDoor.Dw Go.Proofs.YtglhedahannjiaaGreatDoorW.PrintWords
set_option linter.unusedVariables false
set_option linter.unusedSimpArgs false
theorem own : ownKnob Tryz.prog.godebug = none := by kernel_rfl
theorem laidOut : laidOutB Tryz.prog = true := by kernel_rfl
theorem star : "*" ++ "errors.errorString" = "*errors.errorString" := by decide
theorem rowE (u : TypeId) (h : Tryz.prog.typeName? 3 u = some "*errors.errorString") : u = 228 :=
  typeName_ptr_named (nm := "errors.errorString") (by rw [star]; kernel_rfl) (by kernel_rfl) (by decide) u (by rw [star]; exact h)
theorem cellsE : Tryz.prog.cellsOf 252 = 1 := by kernel_rfl
theorem cellsS : Tryz.prog.cellsOf 9 = 1 := by kernel_rfl
set_option maxRecDepth 100000 in
theorem one {W : World} {n : String} {g0 : Nat} {text : List UInt8} {rest : List (String × DataW Unit)} {ps : List MemPlace} (hg0 : Tryz.prog.globalNamed n = some g0) (ht0 : (Tryz.prog.globals[g0]?).map (·.type) = some 28)
    (h : DataW.LaidVars Tryz.prog W ((n, .iface "*errors.errorString" (.ptr (.agg [.lit (.string text)]))) :: rest) ps)
    (hrows : ∀ b off, MemPlace.cell b off ∈ ps → (∃ c t, W.heap[b]? = some (.cells c t (0, 0))) ∧ ∀ u v, W.cell? ⟨b, off, none⟩ = some (.iface u v) → Value.okWide Tryz.prog W .any 0 u v) :
    ∃ a q, W.cell? ⟨g0, 0, none⟩ = some (.iface 228 (.pointer (some a))) ∧ (∃ c t, W.heap[a.block]? = some (.cells c t (0, 0))) ∧ DataW.LaidVars Tryz.prog W rest q ∧ ps = .cell g0 0 :: .cell a.block a.off :: q := by
  obtain ⟨g, t, cs, fuel, p, q, hg, ht, hv, hd, hq, e⟩ := h
  obtain rfl := Option.some.inj (hg0.symm.trans hg)
  obtain rfl := Option.some.inj (ht0.symm.trans ht)
  subst e
  obtain ⟨l⟩ := cs
  have ok : ∀ u v, l = [.iface u v] → Value.okWide Tryz.prog W .any 0 u v := fun u v e => by
    subst e
    exact (hrows g0 0 (by simp [MemPlace.row])).2 u v (by simpa using World.var?_cell hg0 hv 0)
  obtain ⟨a, s, rfl, hc, hs, hz, rfl⟩ := errorString_of_trod Tryz.underlying28 rowE Tryz.underlying228 Tryz.underlying252 rfl rfl Tryz.underlying9 cellsE cellsS hd ok
  exact ⟨a, q, by simpa using World.var?_cell hg0 hv 0, (hrows a.block a.off (by simp [MemPlace.row])).1, hq, by simp [MemPlace.row]⟩
theorem inj_of_nodup {α β : Type} {f : α → β} : ∀ {l : List α}, (l.map f).Nodup → ∀ x y, x ∈ l → y ∈ l → f x = f y → x = y
  | [], _, _, _, hx, _, _ => by cases hx
  | a :: l, h, x, y, hx, hy, e => by
    rw [List.map_cons, List.nodup_cons] at h
    rcases List.mem_cons.1 hx with hxa | hx2
    · rcases List.mem_cons.1 hy with hya | hy2
      · rw [hxa, hya]
      · exact absurd (List.mem_map.2 ⟨y, hy2, by rw [← e, hxa]⟩) h.1
    · rcases List.mem_cons.1 hy with hya | hy2
      · exact absurd (List.mem_map.2 ⟨x, hx2, by rw [e, hya]⟩) h.1
      · exact inj_of_nodup h.2 x y hx2 hy2 e
theorem upto15 {c : Nat} (h1 : 1 ≤ c) (h2 : c ≤ 15) : c = 1 ∨ c = 2 ∨ c = 3 ∨ c = 4 ∨ c = 5 ∨ c = 6 ∨ c = 7 ∨ c = 8 ∨ c = 9 ∨ c = 10 ∨ c = 11 ∨ c = 12 ∨ c = 13 ∨ c = 14 ∨ c = 15 := by omega
set_option maxRecDepth 100000 in
theorem errs_of_laid {W : World} (h : laidMet Tryz.prog Rows.diskKeptUptoRow.laid W) : ∃ ea, Errs15 W.heap.size W ea := by
  obtain ⟨ps, hl0, hnd, hrows⟩ := h
  obtain ⟨a1, q1, c1, b1, hl1, rfl⟩ := one (n := "turnstile/api.ErrArg") (g0 := 1) (by kernel_rfl) (by kernel_rfl) hl0 hrows
  obtain ⟨a2, q2, c2, b2, hl2, rfl⟩ := one (n := "turnstile/api.ErrShort") (g0 := 7) (by kernel_rfl) (by kernel_rfl) hl1 (fun b o hp => hrows b o (by simp [hp]))
  obtain ⟨a3, q3, c3, b3, hl3, rfl⟩ := one (n := "turnstile/api.ErrForm") (g0 := 8) (by kernel_rfl) (by kernel_rfl) hl2 (fun b o hp => hrows b o (by simp [hp]))
  obtain ⟨a4, q4, c4, b4, hl4, rfl⟩ := one (n := "turnstile/api.ErrLong") (g0 := 9) (by kernel_rfl) (by kernel_rfl) hl3 (fun b o hp => hrows b o (by simp [hp]))
  obtain ⟨a5, q5, c5, b5, hl5, rfl⟩ := one (n := "turnstile/api.ErrSum") (g0 := 10) (by kernel_rfl) (by kernel_rfl) hl4 (fun b o hp => hrows b o (by simp [hp]))
  obtain ⟨a6, q6, c6, b6, hl6, rfl⟩ := one (n := "turnstile/api.ErrIo") (g0 := 6) (by kernel_rfl) (by kernel_rfl) hl5 (fun b o hp => hrows b o (by simp [hp]))
  obtain ⟨a7, q7, c7, b7, hl7, rfl⟩ := one (n := "turnstile/api.ErrDown") (g0 := 4) (by kernel_rfl) (by kernel_rfl) hl6 (fun b o hp => hrows b o (by simp [hp]))
  obtain ⟨a8, q8, c8, b8, hl8, rfl⟩ := one (n := "turnstile/api.ErrGone") (g0 := 5) (by kernel_rfl) (by kernel_rfl) hl7 (fun b o hp => hrows b o (by simp [hp]))
  obtain ⟨a9, q9, c9, b9, hl9, rfl⟩ := one (n := "turnstile/api.ErrThere") (g0 := 0) (by kernel_rfl) (by kernel_rfl) hl8 (fun b o hp => hrows b o (by simp [hp]))
  obtain ⟨a10, q10, c10, b10, hl10, rfl⟩ := one (n := "turnstile/api.ErrImage") (g0 := 2) (by kernel_rfl) (by kernel_rfl) hl9 (fun b o hp => hrows b o (by simp [hp]))
  obtain ⟨a11, q11, c11, b11, hl11, rfl⟩ := one (n := "turnstile/api.ErrGap") (g0 := 11) (by kernel_rfl) (by kernel_rfl) hl10 (fun b o hp => hrows b o (by simp [hp]))
  obtain ⟨a12, q12, c12, b12, hl12, rfl⟩ := one (n := "turnstile/api.ErrLog") (g0 := 12) (by kernel_rfl) (by kernel_rfl) hl11 (fun b o hp => hrows b o (by simp [hp]))
  obtain ⟨a13, q13, c13, b13, hl13, rfl⟩ := one (n := "turnstile/api.ErrSick") (g0 := 13) (by kernel_rfl) (by kernel_rfl) hl12 (fun b o hp => hrows b o (by simp [hp]))
  obtain ⟨a14, q14, c14, b14, hl14, rfl⟩ := one (n := "turnstile/api.ErrConfig") (g0 := 14) (by kernel_rfl) (by kernel_rfl) hl13 (fun b o hp => hrows b o (by simp [hp]))
  obtain ⟨a15, q15, c15, b15, hl15, rfl⟩ := one (n := "turnstile/api.ErrNil") (g0 := 3) (by kernel_rfl) (by kernel_rfl) hl14 (fun b o hp => hrows b o (by simp [hp]))
  have hq : q15 = [] := hl15
  subst hq
  let ea : Nat → Addr := fun c => if c = 1 then a1 else if c = 2 then a2 else if c = 3 then a3 else if c = 4 then a4 else if c = 5 then a5 else if c = 6 then a6 else if c = 7 then a7 else if c = 8 then a8 else if c = 9 then a9 else if c = 10 then a10 else if c = 11 then a11 else if c = 12 then a12 else if c = 13 then a13 else if c = 14 then a14 else a15
  have lt : ∀ {g : Nat} {v : Value}, W.cell? ⟨g, 0, none⟩ = some v → g < W.heap.size := fun h => World.block_lt_of_cell? W _ h
  have hsub : (([1, 2, 3, 4, 5, 6, 7, 8, 9, 10, 11, 12, 13, 14, 15] : List Nat).map fun c => MemPlace.cell (ea c).block (ea c).off).Nodup := by
    refine hnd.sublist ?_
    exact .cons _ (.cons_cons _ (.cons _ (.cons_cons _ (.cons _ (.cons_cons _ (.cons _ (.cons_cons _ (.cons _ (.cons_cons _ (.cons _ (.cons_cons _ (.cons _ (.cons_cons _ (.cons _ (.cons_cons _ (.cons _ (.cons_cons _ (.cons _ (.cons_cons _ (.cons _ (.cons_cons _ (.cons _ (.cons_cons _ (.cons _ (.cons_cons _ (.cons _ (.cons_cons _ (.cons _ (.cons_cons _ .slnil)))))))))))))))))))))))))))))
  refine ⟨ea, ?_, ?_, ?_, ?_, ?_⟩
  · intro c h1 h2
    rcases upto15 h1 h2 with rfl | rfl | rfl | rfl | rfl | rfl | rfl | rfl | rfl | rfl | rfl | rfl | rfl | rfl | rfl
    · exact c1
    · exact c2
    · exact c3
    · exact c4
    · exact c5
    · exact c6
    · exact c7
    · exact c8
    · exact c9
    · exact c10
    · exact c11
    · exact c12
    · exact c13
    · exact c14
    · exact c15
  · intro c h1 h2
    rcases upto15 h1 h2 with rfl | rfl | rfl | rfl | rfl | rfl | rfl | rfl | rfl | rfl | rfl | rfl | rfl | rfl | rfl
    · exact b1
    · exact b2
    · exact b3
    · exact b4
    · exact b5
    · exact b6
    · exact b7
    · exact b8
    · exact b9
    · exact b10
    · exact b11
    · exact b12
    · exact b13
    · exact b14
    · exact b15
  · intro c h1 h2
    have hb : ∀ {a : Addr}, (∃ c t, W.heap[a.block]? = some (.cells c t (0, 0))) → a.block < W.heap.size := fun ⟨_, _, h⟩ => (Array.getElem?_eq_some_iff.1 h).1
    rcases upto15 h1 h2 with rfl | rfl | rfl | rfl | rfl | rfl | rfl | rfl | rfl | rfl | rfl | rfl | rfl | rfl | rfl
    · exact hb b1
    · exact hb b2
    · exact hb b3
    · exact hb b4
    · exact hb b5
    · exact hb b6
    · exact hb b7
    · exact hb b8
    · exact hb b9
    · exact hb b10
    · exact hb b11
    · exact hb b12
    · exact hb b13
    · exact hb b14
    · exact hb b15
  · intro c h1 h2
    rcases upto15 h1 h2 with rfl | rfl | rfl | rfl | rfl | rfl | rfl | rfl | rfl | rfl | rfl | rfl | rfl | rfl | rfl
    · exact lt c1
    · exact lt c2
    · exact lt c3
    · exact lt c4
    · exact lt c5
    · exact lt c6
    · exact lt c7
    · exact lt c8
    · exact lt c9
    · exact lt c10
    · exact lt c11
    · exact lt c12
    · exact lt c13
    · exact lt c14
    · exact lt c15
  · intro a b ha1 ha2 hb1 hb2 e
    have hm : ∀ {c : Nat}, 1 ≤ c → c ≤ 15 → c ∈ ([1, 2, 3, 4, 5, 6, 7, 8, 9, 10, 11, 12, 13, 14, 15] : List Nat) := fun {c} h1 h2 => by
      rcases upto15 h1 h2 with rfl | rfl | rfl | rfl | rfl | rfl | rfl | rfl | rfl | rfl | rfl | rfl | rfl | rfl | rfl <;> decide
    exact inj_of_nodup hsub a b (hm ha1 ha2) (hm hb1 hb2) (by show MemPlace.cell (ea a).block (ea a).off = MemPlace.cell (ea b).block (ea b).off; rw [e])
/-- A WORLD FOR THE WITNESS: the settled one, with the fifteen errors. -/
noncomputable def low : Nat := (World.holding Tryz.prog default ⟨#[], #[], []⟩).heap.size
def laidBlocks : Array Obj := #[.cells #[.string ⟨#[97, 110, 32, 97, 114, 103, 117, 109, 101, 110, 116, 32, 111, 117, 116, 115, 105, 100, 101, 32, 119, 104, 97, 116, 32, 116, 104, 101, 32, 99, 97, 108, 108, 32, 116, 97, 107, 101, 115]⟩] 252,
  .cells #[.string ⟨#[116, 104, 101, 32, 98, 121, 116, 101, 115, 32, 101, 110, 100, 32, 116, 111, 111, 32, 101, 97, 114, 108, 121]⟩] 252,
  .cells #[.string ⟨#[116, 104, 101, 32, 98, 121, 116, 101, 115, 32, 104, 97, 118, 101, 32, 97, 110, 111, 116, 104, 101, 114, 32, 102, 111, 114, 109]⟩] 252,
  .cells #[.string ⟨#[109, 111, 114, 101, 32, 116, 104, 97, 110, 32, 116, 104, 101, 32, 108, 105, 109, 105, 116]⟩] 252,
  .cells #[.string ⟨#[116, 104, 101, 32, 115, 117, 109, 32, 105, 115, 32, 97, 110, 111, 116, 104, 101, 114, 32, 111, 110, 101]⟩] 252,
  .cells #[.string ⟨#[116, 104, 101, 32, 100, 105, 115, 107, 32, 102, 97, 105, 108, 101, 100]⟩] 252,
  .cells #[.string ⟨#[116, 104, 101, 32, 112, 111, 119, 101, 114, 32, 105, 115, 32, 111, 102, 102]⟩] 252,
  .cells #[.string ⟨#[110, 111, 32, 115, 117, 99, 104, 32, 102, 105, 108, 101]⟩] 252,
  .cells #[.string ⟨#[116, 104, 101, 114, 101, 32, 105, 115, 32, 115, 117, 99, 104, 32, 97, 32, 102, 105, 108, 101]⟩] 252,
  .cells #[.string ⟨#[110, 111, 32, 105, 109, 97, 103, 101, 32, 111, 102, 32, 97, 32, 100, 105, 115, 107]⟩] 252,
  .cells #[.string ⟨#[114, 101, 99, 111, 114, 100, 115, 32, 97, 114, 101, 32, 109, 105, 115, 115, 105, 110, 103]⟩] 252,
  .cells #[.string ⟨#[97, 32, 114, 101, 99, 111, 114, 100, 32, 116, 104, 97, 116, 32, 105, 115, 32, 110, 111, 110, 101]⟩] 252,
  .cells #[.string ⟨#[97, 110, 32, 101, 97, 114, 108, 105, 101, 114, 32, 119, 114, 105, 116, 101, 32, 102, 97, 105, 108, 101, 100]⟩] 252,
  .cells #[.string ⟨#[110, 111, 32, 99, 111, 110, 102, 105, 103, 117, 114, 97, 116, 105, 111, 110]⟩] 252,
  .cells #[.string ⟨#[110, 111, 32, 111, 98, 106, 101, 99, 116]⟩] 252]
def lay (g k : Nat) (h : Array Obj) (low : Nat) : Array Obj := h.modify g fun
  | .cells _ t frozen => .cells #[.iface 228 (.pointer (some ⟨low + k, 0, none⟩))] t frozen
  | o => o
noncomputable def laidWorld (os : Os) : World :=
  let w0 := World.holding Tryz.prog os ⟨laidBlocks, #[], []⟩
  { w0 with heap := lay 3 14 (lay 14 13 (lay 13 12 (lay 12 11 (lay 11 10 (lay 2 9 (lay 0 8 (lay 5 7 (lay 4 6 (lay 6 5 (lay 10 4 (lay 9 3 (lay 8 2 (lay 7 1 (lay 1 0 w0.heap low) low) low) low) low) low) low) low) low) low) low) low) low) low) low }
end Go.Proofs.YtglhedahannjiaaGreatDoor.Row7
