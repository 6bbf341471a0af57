/- A part of the proof of segmentNames_holds: Read, Rg, Rj. No condition. -/
import Derived.Deep.Slices
import Derived.Deep.Fields
import Derived.ChangeSame
import Derived.SizedLaws
import Derived.Carry
import Derived.ProofKit
import Derived.OpenShut
import Derived.ShutString
import Derived.ChangeOld
import Derived.Below
import Derived.LaidLaws
import Derived.Lib.LaidTab
import Derived.Deep.DeepHandedRow
import Derived.Test.YtpckkdjdjkjapaaGreatDoorRows
import Derived.Test.YtpckkdjdjkjapaaGreatDoorCards
import Derived.Test.YtpckkdjdjkjapaaGreatDoorTie
import Derived.Test.YtpckkdjdjkjapaaGreatDoorK02

/- How an argument that can be read as data lies in memory, kind by kind: out of the reader's answer, the printed words' own facts (Kd) and the datum. -/
namespace Go.Proofs.YtpckkdjdjkjapaaGreatDoor.Read
open Go.RowKit Go.ChangeShapes Go.WideShapes Go.Deep Go.Proofs.YtpckkdjdjkjapaaGreatDoorW.PrintWords
set_option linter.unusedVariables false
set_option linter.unusedSimpArgs false
section
variable {H : Type}
def D1 {α : Type} (D : α → DataW H → Prop) (x : α) (ds : List (DataW H)) : Prop := ∃ d, ds = [d] ∧ D x d
end
end Go.Proofs.YtpckkdjdjkjapaaGreatDoor.Read

/- The arguments of layer 9's laws, read as data: groups of records; what their weights allow. -/
namespace Go.Proofs.YtpckkdjdjkjapaaGreatDoor.Dw
open Go.RowKit Go.ChangeShapes Go.WideShapes Go.Proofs.YtpckkdjdjkjapaaGreatDoor.Read Go.Proofs.YtpckkdjdjkjapaaGreatDoor.Mp Go.Proofs.YtpckkdjdjkjapaaGreatDoor.Dm Go.Proofs.YtpckkdjdjkjapaaGreatDoor.Da
open Go.Proofs.YtpckkdjdjkjapaaGreatDoor.Sg (Group)
open Go.Proofs.YtpckkdjdjkjapaaGreatDoorW.PrintWords (Kd ReadsInt)
set_option linter.unusedVariables false
set_option linter.unusedSimpArgs false
set_option linter.unusedSectionVars false
section
variable {H : Type}
/-- A datum of a type keeps to its weights. -/
def Fits (t : TypeId) (d : DataW H) : Prop := ∀ n, n ∈ d.weights Tryz.prog t → n ≤ reachBytes
theorem fits_arg {ts : List TypeId} {ds : List (DataW H)} (h : (DataW.weightsEach Tryz.prog ts ds).all (· ≤ reachBytes) = true) {j : Nat} {t : TypeId} {d : DataW H} (ht : ts[j]? = some t) (hd : ds[j]? = some d) : Fits t d := fun n hn => by
  have := List.all_eq_true.1 h n (DataW.weights_mem_each ht hd n hn)
  simpa using this
theorem reach_eq : reachBytes = 140737488351232 := by decide
end
theorem u64_nat {x : Int} (h : (Lit.int .u64 x).wf = true) : ∃ n : Nat, x = n ∧ n < 18446744073709551616 := by
  simp [Lit.wf, IntKind.min, IntKind.max, IntKind.bits, IntKind.signed] at h
  exact ⟨x.toNat, by omega, by omega⟩
section
variable {H : Type} {enc : TypeId × Value → H} {w : World} {base : Nat} {spare : Nat → Bool} {held : Bool} {v : Value} {x : DataW H} {ps : List MemPlace} {r : Reach} {b0 : Nat}
end
end Go.Proofs.YtpckkdjdjkjapaaGreatDoor.Dw

/- The tables and the errors as layer 9's rows lay them, and a world for the witnesses (printed by wip/tools/gen_row9.py). -/
namespace Go.Proofs.YtpckkdjdjkjapaaGreatDoor.Row9n
open Go.ChangeShapes Go.WideShapes Go.ChangeAt Go.RowKit Go.Proofs.YtpckkdjdjkjapaaGreatDoor.Read Go.Proofs.YtpckkdjdjkjapaaGreatDoor.Dm Go.Proofs.YtpckkdjdjkjapaaGreatDoor.Da Go.Proofs.YtpckkdjdjkjapaaGreatDoor.Dw Go.Proofs.YtpckkdjdjkjapaaGreatDoorW.PrintWords
set_option linter.unusedVariables false
set_option linter.unusedSimpArgs false
theorem own : ownKnob Tryz.prog.godebug = none := by kernel_rfl
theorem laidOut : laidOutB Tryz.prog = true := by kernel_rfl
theorem star : "*" ++ "errors.errorString" = "*errors.errorString" := by decide
theorem rowE (u : TypeId) (h : Tryz.prog.typeName? 3 u = some "*errors.errorString") : u = 320 :=
  typeName_ptr_named (nm := "errors.errorString") (by rw [star]; kernel_rfl) (by kernel_rfl) (by decide) u (by rw [star]; exact h)
theorem cellsE : Tryz.prog.cellsOf 322 = 1 := by kernel_rfl
theorem cellsS : Tryz.prog.cellsOf 9 = 1 := by kernel_rfl
set_option maxRecDepth 100000 in
theorem one {W : World} {n : String} {g0 : Nat} {text : List UInt8} {rest : List (String × DataW Unit)} {ps : List MemPlace} (hg0 : Tryz.prog.globalNamed n = some g0) (ht0 : (Tryz.prog.globals[g0]?).map (·.type) = some 32)
    (h : DataW.LaidVars Tryz.prog W ((n, .iface "*errors.errorString" (.ptr (.agg [.lit (.string text)]))) :: rest) ps)
    (hrows : ∀ b off, MemPlace.cell b off ∈ ps → (∃ c t, W.heap[b]? = some (.cells c t (0, 0))) ∧ ∀ u v, W.cell? ⟨b, off, none⟩ = some (.iface u v) → Value.okWide Tryz.prog W .any 0 u v) :
    ∃ a q, W.cell? ⟨g0, 0, none⟩ = some (.iface 320 (.pointer (some a))) ∧ (∃ c t, W.heap[a.block]? = some (.cells c t (0, 0))) ∧ DataW.LaidVars Tryz.prog W rest q ∧ ps = .cell g0 0 :: .cell a.block a.off :: q := by
  obtain ⟨g, t, cs, fuel, p, q, hg, ht, hv, hd, hq, e⟩ := h
  obtain rfl := Option.some.inj (hg0.symm.trans hg)
  obtain rfl := Option.some.inj (ht0.symm.trans ht)
  subst e
  obtain ⟨l⟩ := cs
  have ok : ∀ u v, l = [.iface u v] → Value.okWide Tryz.prog W .any 0 u v := fun u v e => by
    subst e
    exact (hrows g0 0 (by simp [MemPlace.row])).2 u v (by simpa using World.var?_cell hg0 hv 0)
  obtain ⟨a, s, rfl, hc, hs, hz, rfl⟩ := errorString_of_trod Tryz.underlying32 rowE Tryz.underlying320 Tryz.underlying322 rfl rfl Tryz.underlying9 cellsE cellsS hd ok
  exact ⟨a, q, by simpa using World.var?_cell hg0 hv 0, (hrows a.block a.off (by simp [MemPlace.row])).1, hq, by simp [MemPlace.row]⟩
theorem inj_of_nodup {α β : Type} {f : α → β} : ∀ {l : List α}, (l.map f).Nodup → ∀ x y, x ∈ l → y ∈ l → f x = f y → x = y
  | [], _, _, _, hx, _, _ => by cases hx
  | a :: l, h, x, y, hx, hy, e => by
    rw [List.map_cons, List.nodup_cons] at h
    rcases List.mem_cons.1 hx with hxa | hx2
    · rcases List.mem_cons.1 hy with hya | hy2
      · rw [hxa, hya]
      · exact absurd (List.mem_map.2 ⟨y, hy2, by rw [← e, hxa]⟩) h.1
    · rcases List.mem_cons.1 hy with hya | hy2
      · exact absurd (List.mem_map.2 ⟨x, hx2, by rw [e, hya]⟩) h.1
      · exact inj_of_nodup h.2 x y hx2 hy2 e
theorem str_fits {H : Type} {s : ByteArray} (h : Fits 9 (.lit (.string s.data.toList) : DataW H)) : s.size ≤ 140737488355328 := by
  have h1 := h s.data.toList.length (by simp [DataW.weights])
  rw [reach_eq, Array.length_toList] at h1
  have : s.data.size = s.size := rfl
  omega
theorem skip {W : World} {x : String × DataW Unit} {rest : List (String × DataW Unit)} {ps : List MemPlace} (h : DataW.LaidVars Tryz.prog W (x :: rest) ps) : ∃ q, DataW.LaidVars Tryz.prog W rest q ∧ q.Sublist ps := by
  obtain ⟨n, d⟩ := x
  obtain ⟨g, t, cs, fuel, p, q, _, _, _, _, hq, e⟩ := h
  exact ⟨q, hq, by rw [e]; exact List.sublist_append_right _ _⟩
theorem tab {W : World} {n : String} {g0 N : Nat} {t e : TypeId} {k : IntKind} {zs : List Int} {rest : List (String × DataW Unit)} {ps : List MemPlace} (hg0 : Tryz.prog.globalNamed n = some g0) (ht0 : (Tryz.prog.globals[g0]?).map (·.type) = some t)
    (hu : Tryz.prog.underlying t = some (.array N e)) (he : Tryz.prog.underlying e = some (.int k)) (hce : Tryz.prog.cellsOf e = 1) (hct : Tryz.prog.cellsOf t = N) (h : DataW.LaidVars Tryz.prog W ((n, Lib.tabData k zs) :: rest) ps) : ∀ j : Nat, W.cell? ⟨g0, j, none⟩ = (zs[j]?).map (Value.int k) := by
  obtain ⟨g, t', cs, fuel, p, q, hg, ht, hv, hd, hq, e⟩ := h
  obtain rfl := Option.some.inj (hg0.symm.trans hg)
  obtain rfl := Option.some.inj (ht0.symm.trans ht)
  have hcs := Lib.cells_of_tab hu he hce hct hd
  intro j
  rw [World.var?_cell hg0 hv j, ← Array.getElem?_toList, hcs, List.getElem?_map]
def tab64 : List Int := [0, 1, 56, 2, 57, 49, 28, 3, 61, 58, 42, 50, 38, 29, 17, 4, 62, 47, 59, 36, 45, 43, 51, 22, 53, 39, 33, 30, 24, 18, 12, 5, 63, 55, 48, 27, 60, 41, 37, 16, 46, 35, 44, 21, 52, 32, 23, 11, 54, 26, 40, 15, 34, 20, 31, 10, 25, 14, 19, 9, 13, 8, 7, 6]
def tabH : List Int := [0, 274646895, 549293790, 820201905, 1098587580, 1361435347, 1640403810, 1905808397, 2197175160, 2460548119, 2722870694, 2987750089, 3280807620, 3553878443, 3811616794, 4084100981]
set_option maxRecDepth 100000 in
theorem tab64_is : ∀ j, j < 64 → tab64[j]? = some ((Lib.deBruijn64tab.getD j 0 : Nat) : Int) := by decide +kernel
set_option maxRecDepth 100000 in
theorem tabH_is : ∀ j, j < 16 → tabH[j]? = some ((Sg.halfs.getD j 0 : Nat) : Int) := by decide +kernel
def L9n : List Err := [1, 2, 3, 4, 5, 6, 7, 8, 9, 13, 15]
set_option maxRecDepth 100000 in
theorem laid9 {W : World} (h : laidMet Tryz.prog Rows.segmentNamesRow.laid W) : ∃ eb, ErrsAt W.heap.size W eb L9n ∧ Env W.heap.size W L9n ∧ NumErrs W := by
  obtain ⟨ps, hl, hnd0, hrows0⟩ := h
  have zz0 : ps.Sublist ps := List.Sublist.refl _
  obtain ⟨y1, s1, z1⟩ := skip hl
  have zz1 := z1.trans zz0
  have T64 := tab (n := "math/bits.deBruijn64tab") (g0 := 21) (t := 326) (e := 5) (N := 64) (k := .u8) (zs := tab64) (by kernel_rfl) (by kernel_rfl) Tryz.underlying326 Tryz.underlying5 (by kernel_rfl) (by kernel_rfl) s1
  obtain ⟨y2, s2, z2⟩ := skip s1
  have zz2 := z2.trans zz1
  obtain ⟨y3, s3, z3⟩ := skip s2
  have zz3 := z3.trans zz2
  have TH := tab (n := "turnstile/crc.halves") (g0 := 19) (t := 318) (e := 214) (N := 16) (k := .u32) (zs := tabH) (by kernel_rfl) (by kernel_rfl) Tryz.underlying318 Tryz.underlying214 (by kernel_rfl) (by kernel_rfl) s3
  obtain ⟨y4, s4, z4⟩ := skip s3
  have zz4 := z4.trans zz3
  obtain ⟨y5, s5, z5⟩ := skip s4
  have zz5 := z5.trans zz4
  obtain ⟨agRange, _, cgRange, _, _, _⟩ := one (n := "strconv.ErrRange") (g0 := 17) (by kernel_rfl) (by kernel_rfl) s5 (fun b o hp => hrows0 b o (zz5.subset hp))
  obtain ⟨y6, s6, z6⟩ := skip s5
  have zz6 := z6.trans zz5
  obtain ⟨agSyntax, _, cgSyntax, _, _, _⟩ := one (n := "strconv.ErrSyntax") (g0 := 16) (by kernel_rfl) (by kernel_rfl) s6 (fun b o hp => hrows0 b o (zz6.subset hp))
  obtain ⟨y7, s7, z7⟩ := skip s6
  have zz7 := z7.trans zz6
  have hnd := hnd0.sublist zz7
  have hrows := fun b o (hp : MemPlace.cell b o ∈ y7) => hrows0 b o (zz7.subset hp)
  clear hnd0 hrows0 zz1 z1 zz2 z2 zz3 z3 zz4 z4 zz5 z5 zz6 z6 zz7 z7
  obtain ⟨a1, q1, c1, b1, hl1, rfl⟩ := one (n := "turnstile/api.ErrArg") (g0 := 4) (by kernel_rfl) (by kernel_rfl) s7 hrows
  obtain ⟨a2, q2, c2, b2, hl2, rfl⟩ := one (n := "turnstile/api.ErrShort") (g0 := 9) (by kernel_rfl) (by kernel_rfl) hl1 (fun b o hp => hrows b o (by simp [hp]))
  obtain ⟨a3, q3, c3, b3, hl3, rfl⟩ := one (n := "turnstile/api.ErrForm") (g0 := 10) (by kernel_rfl) (by kernel_rfl) hl2 (fun b o hp => hrows b o (by simp [hp]))
  obtain ⟨a4, q4, c4, b4, hl4, rfl⟩ := one (n := "turnstile/api.ErrLong") (g0 := 1) (by kernel_rfl) (by kernel_rfl) hl3 (fun b o hp => hrows b o (by simp [hp]))
  obtain ⟨a5, q5, c5, b5, hl5, rfl⟩ := one (n := "turnstile/api.ErrSum") (g0 := 11) (by kernel_rfl) (by kernel_rfl) hl4 (fun b o hp => hrows b o (by simp [hp]))
  obtain ⟨a6, q6, c6, b6, hl6, rfl⟩ := one (n := "turnstile/api.ErrIo") (g0 := 2) (by kernel_rfl) (by kernel_rfl) hl5 (fun b o hp => hrows b o (by simp [hp]))
  obtain ⟨a7, q7, c7, b7, hl7, rfl⟩ := one (n := "turnstile/api.ErrDown") (g0 := 3) (by kernel_rfl) (by kernel_rfl) hl6 (fun b o hp => hrows b o (by simp [hp]))
  obtain ⟨a8, q8, c8, b8, hl8, rfl⟩ := one (n := "turnstile/api.ErrGone") (g0 := 8) (by kernel_rfl) (by kernel_rfl) hl7 (fun b o hp => hrows b o (by simp [hp]))
  obtain ⟨a9, q9, c9, b9, hl9, rfl⟩ := one (n := "turnstile/api.ErrThere") (g0 := 5) (by kernel_rfl) (by kernel_rfl) hl8 (fun b o hp => hrows b o (by simp [hp]))
  obtain ⟨a13, q13, c13, b13, hl13, rfl⟩ := one (n := "turnstile/api.ErrSick") (g0 := 0) (by kernel_rfl) (by kernel_rfl) hl9 (fun b o hp => hrows b o (by simp [hp]))
  obtain ⟨a15, q15, c15, b15, hl15, rfl⟩ := one (n := "turnstile/api.ErrNil") (g0 := 7) (by kernel_rfl) (by kernel_rfl) hl13 (fun b o hp => hrows b o (by simp [hp]))
  let ea : Nat → Addr := fun c => if c = 1 then a1 else if c = 2 then a2 else if c = 3 then a3 else if c = 4 then a4 else if c = 5 then a5 else if c = 6 then a6 else if c = 7 then a7 else if c = 8 then a8 else if c = 9 then a9 else if c = 13 then a13 else a15
  have lt : ∀ {g : Nat} {v : Value}, W.cell? ⟨g, 0, none⟩ = some v → g < W.heap.size := fun h => World.block_lt_of_cell? W _ h
  have hsub : (([1, 2, 3, 4, 5, 6, 7, 8, 9, 13, 15] : List Nat).map fun c => MemPlace.cell (ea c).block (ea c).off).Nodup := by
    refine hnd.sublist ?_
    exact (.cons _ (.cons_cons _ (.cons _ (.cons_cons _ (.cons _ (.cons_cons _ (.cons _ (.cons_cons _ (.cons _ (.cons_cons _ (.cons _ (.cons_cons _ (.cons _ (.cons_cons _ (.cons _ (.cons_cons _ (.cons _ (.cons_cons _ (.cons _ (.cons_cons _ (.cons _ (.cons_cons _ (List.nil_sublist _)))))))))))))))))))))))
  have hb : ∀ {a : Addr}, (∃ c t, W.heap[a.block]? = some (.cells c t (0, 0))) → a.block < W.heap.size := fun ⟨_, _, h⟩ => (Array.getElem?_eq_some_iff.1 h).1
  refine ⟨ea, ⟨?_, ?_, ?_, ?_, ?_, by decide⟩, ⟨⟨?_, ?_⟩, ?_, ?_, by decide⟩, ⟨⟨_, _, cgSyntax⟩, ⟨_, _, cgRange⟩⟩⟩
  · intro c hc
    simp only [L9n, List.mem_cons, List.not_mem_nil, or_false] at hc
    rcases hc with rfl | rfl | rfl | rfl | rfl | rfl | rfl | rfl | rfl | rfl | rfl
    · exact c1
    · exact c2
    · exact c3
    · exact c4
    · exact c5
    · exact c6
    · exact c7
    · exact c8
    · exact c9
    · exact c13
    · exact c15
  · intro c hc
    simp only [L9n, List.mem_cons, List.not_mem_nil, or_false] at hc
    rcases hc with rfl | rfl | rfl | rfl | rfl | rfl | rfl | rfl | rfl | rfl | rfl
    · exact b1
    · exact b2
    · exact b3
    · exact b4
    · exact b5
    · exact b6
    · exact b7
    · exact b8
    · exact b9
    · exact b13
    · exact b15
  · intro c hc
    simp only [L9n, List.mem_cons, List.not_mem_nil, or_false] at hc
    rcases hc with rfl | rfl | rfl | rfl | rfl | rfl | rfl | rfl | rfl | rfl | rfl
    · exact hb b1
    · exact hb b2
    · exact hb b3
    · exact hb b4
    · exact hb b5
    · exact hb b6
    · exact hb b7
    · exact hb b8
    · exact hb b9
    · exact hb b13
    · exact hb b15
  · intro c hc
    simp only [L9n, List.mem_cons, List.not_mem_nil, or_false] at hc
    rcases hc with rfl | rfl | rfl | rfl | rfl | rfl | rfl | rfl | rfl | rfl | rfl
    · exact lt c1
    · exact lt c2
    · exact lt c3
    · exact lt c4
    · exact lt c5
    · exact lt c6
    · exact lt c7
    · exact lt c8
    · exact lt c9
    · exact lt c13
    · exact lt c15
  · intro a b ha hb e
    exact inj_of_nodup hsub a b ha hb (by show MemPlace.cell (ea a).block (ea a).off = MemPlace.cell (ea b).block (ea b).off; rw [e])
  · intro j hj
    rw [TH j, tabH_is j hj]; rfl
  · have h0 := TH 0
    exact World.block_lt_of_cell? W _ h0
  · intro j hj
    have hj2 : j < 64 := hj
    rw [T64 j, tab64_is j hj2]; rfl
  · have h0 := T64 0
    exact World.block_lt_of_cell? W _ h0
/-- A WORLD FOR THE WITNESS: the settled one, with the tables and the errors. -/
noncomputable def low : Nat := (World.holding Tryz.prog default ⟨#[], #[], []⟩).heap.size
def laidBlocks : Array Obj := #[.cells #[.string ⟨#[97, 110, 32, 97, 114, 103, 117, 109, 101, 110, 116, 32, 111, 117, 116, 115, 105, 100, 101, 32, 119, 104, 97, 116, 32, 116, 104, 101, 32, 99, 97, 108, 108, 32, 116, 97, 107, 101, 115]⟩] 322,
  .cells #[.string ⟨#[116, 104, 101, 32, 98, 121, 116, 101, 115, 32, 101, 110, 100, 32, 116, 111, 111, 32, 101, 97, 114, 108, 121]⟩] 322,
  .cells #[.string ⟨#[116, 104, 101, 32, 98, 121, 116, 101, 115, 32, 104, 97, 118, 101, 32, 97, 110, 111, 116, 104, 101, 114, 32, 102, 111, 114, 109]⟩] 322,
  .cells #[.string ⟨#[109, 111, 114, 101, 32, 116, 104, 97, 110, 32, 116, 104, 101, 32, 108, 105, 109, 105, 116]⟩] 322,
  .cells #[.string ⟨#[116, 104, 101, 32, 115, 117, 109, 32, 105, 115, 32, 97, 110, 111, 116, 104, 101, 114, 32, 111, 110, 101]⟩] 322,
  .cells #[.string ⟨#[116, 104, 101, 32, 100, 105, 115, 107, 32, 102, 97, 105, 108, 101, 100]⟩] 322,
  .cells #[.string ⟨#[116, 104, 101, 32, 112, 111, 119, 101, 114, 32, 105, 115, 32, 111, 102, 102]⟩] 322,
  .cells #[.string ⟨#[110, 111, 32, 115, 117, 99, 104, 32, 102, 105, 108, 101]⟩] 322,
  .cells #[.string ⟨#[116, 104, 101, 114, 101, 32, 105, 115, 32, 115, 117, 99, 104, 32, 97, 32, 102, 105, 108, 101]⟩] 322,
  .cells #[.string ⟨#[97, 110, 32, 101, 97, 114, 108, 105, 101, 114, 32, 119, 114, 105, 116, 101, 32, 102, 97, 105, 108, 101, 100]⟩] 322,
  .cells #[.string ⟨#[110, 111, 32, 111, 98, 106, 101, 99, 116]⟩] 322,
  .cells #[.string ⟨#[118, 97, 108, 117, 101, 32, 111, 117, 116, 32, 111, 102, 32, 114, 97, 110, 103, 101]⟩] 322,
  .cells #[.string ⟨#[105, 110, 118, 97, 108, 105, 100, 32, 115, 121, 110, 116, 97, 120]⟩] 322]
def lay (g k : Nat) (h : Array Obj) (low : Nat) : Array Obj := h.modify g fun
  | .cells _ t frozen => .cells #[.iface 320 (.pointer (some ⟨low + k, 0, none⟩))] t frozen
  | o => o
def layTab (g : Nat) (cs : Array Value) (h : Array Obj) : Array Obj := h.modify g fun
  | .cells _ t frozen => .cells cs t frozen
  | o => o
def t_bits_deBruijn32tab : Array Value := #[.int .u8 0, .int .u8 1, .int .u8 28, .int .u8 2, .int .u8 29, .int .u8 14, .int .u8 24, .int .u8 3, .int .u8 30, .int .u8 22, .int .u8 20, .int .u8 15, .int .u8 25, .int .u8 17, .int .u8 4, .int .u8 8, .int .u8 31, .int .u8 27, .int .u8 13, .int .u8 23, .int .u8 21, .int .u8 19, .int .u8 16, .int .u8 7, .int .u8 26, .int .u8 12, .int .u8 18, .int .u8 6, .int .u8 11, .int .u8 5, .int .u8 10, .int .u8 9]
def t_bits_deBruijn64tab : Array Value := #[.int .u8 0, .int .u8 1, .int .u8 56, .int .u8 2, .int .u8 57, .int .u8 49, .int .u8 28, .int .u8 3, .int .u8 61, .int .u8 58, .int .u8 42, .int .u8 50, .int .u8 38, .int .u8 29, .int .u8 17, .int .u8 4, .int .u8 62, .int .u8 47, .int .u8 59, .int .u8 36, .int .u8 45, .int .u8 43, .int .u8 51, .int .u8 22, .int .u8 53, .int .u8 39, .int .u8 33, .int .u8 30, .int .u8 24, .int .u8 18, .int .u8 12, .int .u8 5, .int .u8 63, .int .u8 55, .int .u8 48, .int .u8 27, .int .u8 60, .int .u8 41, .int .u8 37, .int .u8 16, .int .u8 46, .int .u8 35, .int .u8 44, .int .u8 21, .int .u8 52, .int .u8 32, .int .u8 23, .int .u8 11, .int .u8 54, .int .u8 26, .int .u8 40, .int .u8 15, .int .u8 34, .int .u8 20, .int .u8 31, .int .u8 10, .int .u8 25, .int .u8 14, .int .u8 19, .int .u8 9, .int .u8 13, .int .u8 8, .int .u8 7, .int .u8 6]
def t_strconv_uint64pow10 : Array Value := #[.int .u64 1, .int .u64 10, .int .u64 100, .int .u64 1000, .int .u64 10000, .int .u64 100000, .int .u64 1000000, .int .u64 10000000, .int .u64 100000000, .int .u64 1000000000, .int .u64 10000000000, .int .u64 100000000000, .int .u64 1000000000000, .int .u64 10000000000000, .int .u64 100000000000000, .int .u64 1000000000000000, .int .u64 10000000000000000, .int .u64 100000000000000000, .int .u64 1000000000000000000, .int .u64 10000000000000000000]
def t_crc_halves : Array Value := #[.int .u32 0, .int .u32 274646895, .int .u32 549293790, .int .u32 820201905, .int .u32 1098587580, .int .u32 1361435347, .int .u32 1640403810, .int .u32 1905808397, .int .u32 2197175160, .int .u32 2460548119, .int .u32 2722870694, .int .u32 2987750089, .int .u32 3280807620, .int .u32 3553878443, .int .u32 3811616794, .int .u32 4084100981]
def t_utf8_acceptRanges : Array Value := #[.int .u8 128, .int .u8 191, .int .u8 160, .int .u8 191, .int .u8 128, .int .u8 159, .int .u8 144, .int .u8 191, .int .u8 128, .int .u8 143, .int .u8 0, .int .u8 0, .int .u8 0, .int .u8 0, .int .u8 0, .int .u8 0, .int .u8 0, .int .u8 0, .int .u8 0, .int .u8 0, .int .u8 0, .int .u8 0, .int .u8 0, .int .u8 0, .int .u8 0, .int .u8 0, .int .u8 0, .int .u8 0, .int .u8 0, .int .u8 0, .int .u8 0, .int .u8 0]
def t_utf8_first : Array Value := #[.int .u8 240, .int .u8 240, .int .u8 240, .int .u8 240, .int .u8 240, .int .u8 240, .int .u8 240, .int .u8 240, .int .u8 240, .int .u8 240, .int .u8 240, .int .u8 240, .int .u8 240, .int .u8 240, .int .u8 240, .int .u8 240, .int .u8 240, .int .u8 240, .int .u8 240, .int .u8 240, .int .u8 240, .int .u8 240, .int .u8 240, .int .u8 240, .int .u8 240, .int .u8 240, .int .u8 240, .int .u8 240, .int .u8 240, .int .u8 240, .int .u8 240, .int .u8 240, .int .u8 240, .int .u8 240, .int .u8 240, .int .u8 240, .int .u8 240, .int .u8 240, .int .u8 240, .int .u8 240, .int .u8 240, .int .u8 240, .int .u8 240, .int .u8 240, .int .u8 240, .int .u8 240, .int .u8 240, .int .u8 240, .int .u8 240, .int .u8 240, .int .u8 240, .int .u8 240, .int .u8 240, .int .u8 240, .int .u8 240, .int .u8 240, .int .u8 240, .int .u8 240, .int .u8 240, .int .u8 240, .int .u8 240, .int .u8 240, .int .u8 240, .int .u8 240, .int .u8 240, .int .u8 240, .int .u8 240, .int .u8 240, .int .u8 240, .int .u8 240, .int .u8 240, .int .u8 240, .int .u8 240, .int .u8 240, .int .u8 240, .int .u8 240, .int .u8 240, .int .u8 240, .int .u8 240, .int .u8 240, .int .u8 240, .int .u8 240, .int .u8 240, .int .u8 240, .int .u8 240, .int .u8 240, .int .u8 240, .int .u8 240, .int .u8 240, .int .u8 240, .int .u8 240, .int .u8 240, .int .u8 240, .int .u8 240, .int .u8 240, .int .u8 240, .int .u8 240, .int .u8 240, .int .u8 240, .int .u8 240, .int .u8 240, .int .u8 240, .int .u8 240, .int .u8 240, .int .u8 240, .int .u8 240, .int .u8 240, .int .u8 240, .int .u8 240, .int .u8 240, .int .u8 240, .int .u8 240, .int .u8 240, .int .u8 240, .int .u8 240, .int .u8 240, .int .u8 240, .int .u8 240, .int .u8 240, .int .u8 240, .int .u8 240, .int .u8 240, .int .u8 240, .int .u8 240, .int .u8 240, .int .u8 240, .int .u8 240, .int .u8 240, .int .u8 241, .int .u8 241, .int .u8 241, .int .u8 241, .int .u8 241, .int .u8 241, .int .u8 241, .int .u8 241, .int .u8 241, .int .u8 241, .int .u8 241, .int .u8 241, .int .u8 241, .int .u8 241, .int .u8 241, .int .u8 241, .int .u8 241, .int .u8 241, .int .u8 241, .int .u8 241, .int .u8 241, .int .u8 241, .int .u8 241, .int .u8 241, .int .u8 241, .int .u8 241, .int .u8 241, .int .u8 241, .int .u8 241, .int .u8 241, .int .u8 241, .int .u8 241, .int .u8 241, .int .u8 241, .int .u8 241, .int .u8 241, .int .u8 241, .int .u8 241, .int .u8 241, .int .u8 241, .int .u8 241, .int .u8 241, .int .u8 241, .int .u8 241, .int .u8 241, .int .u8 241, .int .u8 241, .int .u8 241, .int .u8 241, .int .u8 241, .int .u8 241, .int .u8 241, .int .u8 241, .int .u8 241, .int .u8 241, .int .u8 241, .int .u8 241, .int .u8 241, .int .u8 241, .int .u8 241, .int .u8 241, .int .u8 241, .int .u8 241, .int .u8 241, .int .u8 241, .int .u8 241, .int .u8 2, .int .u8 2, .int .u8 2, .int .u8 2, .int .u8 2, .int .u8 2, .int .u8 2, .int .u8 2, .int .u8 2, .int .u8 2, .int .u8 2, .int .u8 2, .int .u8 2, .int .u8 2, .int .u8 2, .int .u8 2, .int .u8 2, .int .u8 2, .int .u8 2, .int .u8 2, .int .u8 2, .int .u8 2, .int .u8 2, .int .u8 2, .int .u8 2, .int .u8 2, .int .u8 2, .int .u8 2, .int .u8 2, .int .u8 2, .int .u8 19, .int .u8 3, .int .u8 3, .int .u8 3, .int .u8 3, .int .u8 3, .int .u8 3, .int .u8 3, .int .u8 3, .int .u8 3, .int .u8 3, .int .u8 3, .int .u8 3, .int .u8 35, .int .u8 3, .int .u8 3, .int .u8 52, .int .u8 4, .int .u8 4, .int .u8 4, .int .u8 68, .int .u8 241, .int .u8 241, .int .u8 241, .int .u8 241, .int .u8 241, .int .u8 241, .int .u8 241, .int .u8 241, .int .u8 241, .int .u8 241, .int .u8 241]
noncomputable def laidWorld (os : Os) : World :=
  let w0 := World.holding Tryz.prog os ⟨laidBlocks, #[], []⟩
  { w0 with heap := layTab 22 t_utf8_first (layTab 23 t_utf8_acceptRanges (layTab 19 t_crc_halves (layTab 15 t_strconv_uint64pow10 (layTab 21 t_bits_deBruijn64tab (layTab 20 t_bits_deBruijn32tab (lay 16 12 (lay 17 11 (lay 7 10 (lay 0 9 (lay 5 8 (lay 8 7 (lay 3 6 (lay 2 5 (lay 11 4 (lay 1 3 (lay 10 2 (lay 9 1 (lay 4 0 w0.heap low) low) low) low) low) low) low) low) low) low) low) low) low)))))) }
end Go.Proofs.YtpckkdjdjkjapaaGreatDoor.Row9n
