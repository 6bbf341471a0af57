/- A part of the proof of segmentMemoryUpto_holds: Read, Rg, Rm. No condition. -/
import Derived.Deep.Slices
import Derived.Deep.Fields
import Derived.ChangeSame
import Derived.SizedLaws
import Derived.Carry
import Derived.ProofKit
import Derived.OpenShut
import Derived.ShutString
import Derived.ChangeOld
import Derived.Below
import Derived.LaidLaws
import Derived.Lib.LaidTab
import Derived.Deep.DeepHandedRow
import Derived.Test.YtkmmlfphcfcbgaaGreatDoorRows
import Derived.Test.YtkmmlfphcfcbgaaGreatDoorCards
import Derived.Test.YtkmmlfphcfcbgaaGreatDoorTie
import Derived.Test.YtkmmlfphcfcbgaaGreatDoorC29

/- How an argument that can be read as data lies in memory, kind by kind: out of the reader's answer, the printed words' own facts (Kd) and the datum. -/
namespace Go.Proofs.YtkmmlfphcfcbgaaGreatDoor.Read
open Go.RowKit Go.ChangeShapes Go.WideShapes Go.Deep Go.Proofs.YtkmmlfphcfcbgaaGreatDoorW.PrintWords
set_option linter.unusedVariables false
set_option linter.unusedSimpArgs false
section
variable {H : Type}
/-- What type t's cells read as: a value by the kind d, its datum by D. -/
def Rdr (P : Program) (t : TypeId) {α : Type} (d : Kd α) (D : α → DataW H → Prop) : Prop :=
  ∀ (enc : TypeId × Value → H) (w : World) (base : Nat) (spare : Nat → Bool) (held : Bool) (fuel : Nat) (cs : List Value) (x : DataW H × List MemPlace),
    DataW.trod enc P w base spare held fuel t cs = some x → ∃ y, d.K w y cs ∧ D y x.1
def DInt (k : IntKind) (n : Int) (d : DataW H) : Prop := d = .lit (.int k n) ∧ (Lit.int k n).wf = true
def DSlice {α : Type} (D : α → DataW H → Prop) (xs : List α) (d : DataW H) : Prop :=
  xs.length ≤ maxLen ∧ ((xs = [] ∧ d = .nil) ∨ ∃ es sp, d = .slice es sp ∧ es.length = xs.length ∧ ∀ (i : Nat) x e, xs[i]? = some x → es[i]? = some e → D x e)
def D1 {α : Type} (D : α → DataW H → Prop) (x : α) (ds : List (DataW H)) : Prop := ∃ d, ds = [d] ∧ D x d
theorem rdr_int {P : Program} {t : TypeId} {k : IntKind} (ht : P.underlying t = some (.int k)) : Rdr (H := H) P t (Kd.int k) (DInt k) := by
  intro enc w base spare held fuel cs x h
  obtain ⟨n, rfl, rfl, hw⟩ := DataW.trod_int ht h
  exact ⟨n, rfl, rfl, hw⟩
theorem maxLen_eq : maxLen = 9223372036854775807 := by decide
theorem rdr_slice {P : Program} {t e : TypeId} {α : Type} {d : Kd α} {D : α → DataW H → Prop} (ht : P.underlying t = some (.slice e)) (hc : P.cellsOf e = d.sz) (he : Rdr P e d D) :
    Rdr P t (Kd.slice e d) (DSlice D) := by
  intro enc w base spare held fuel cs x h
  rcases open_slice ht h with ⟨rfl, rfl⟩ | ⟨a, len, cap, m, n, Ds, Pl, rfl, hb, hl, hm, hmm, rfl, hx⟩
  · exact ⟨[], ⟨none, 0, rfl, Nat.le_refl _, rfl, by simp, fun h => absurd h (by simp)⟩, Nat.zero_le _, .inl ⟨rfl, rfl⟩⟩
  · have hlm : len ≤ m := by rw [hmm]; split <;> omega
    have each : ∀ i, i < len → ∃ y c, c.length = d.sz ∧ d.K w y c ∧ D y (Ds i) ∧ ∀ j u, c[j]? = some u → w.cell? (a.add (i * d.sz + j)) = some u := by
      intro i hi
      obtain ⟨cs', h1, h2⟩ := hx i (by omega)
      rw [hc] at h1
      obtain ⟨_, hlen, hcell⟩ := World.cells?_some h1
      obtain ⟨y, hk, hd⟩ := he enc w base spare held n cs' _ h2
      refine ⟨y, cs', hlen, hk, hd, fun j u hj => ?_⟩
      have hj' : j < d.sz := by
        have := (List.getElem?_eq_some_iff.1 hj).1
        omega
      have := hcell j hj'
      rw [Go.Deep.add_add] at this
      rw [this, hj]
    obtain ⟨ys, hys, hy⟩ : ∃ ys : List α, ys.length = len ∧ ∀ i, i < len → ∃ y c, ys[i]? = some y ∧ c.length = d.sz ∧ d.K w y c ∧ D y (Ds i) ∧ ∀ j u, c[j]? = some u → w.cell? (a.add (i * d.sz + j)) = some u := by
      clear h hx hl hlm hmm hm hb
      induction len with
      | zero => exact ⟨[], rfl, fun i hi => absurd hi (Nat.not_lt_zero _)⟩
      | succ l ih =>
        obtain ⟨ys, h1, h2⟩ := ih (fun i hi => each i (by omega))
        obtain ⟨y, c, h3, h4, h5, h6⟩ := each l (by omega)
        refine ⟨ys ++ [y], by simp [h1], fun i hi => ?_⟩
        rcases Nat.lt_or_ge i l with hil | hil
        · obtain ⟨y', c', g1, g2⟩ := h2 i hil
          exact ⟨y', c', by rw [List.getElem?_append_left (by omega)]; exact g1, g2⟩
        · obtain rfl : i = l := by omega
          exact ⟨y, c, by rw [List.getElem?_append_right (by omega)]; simp [h1], h3, h4, h5, h6⟩
    have hlen9 : len ≤ 9223372036854775807 := by
      have := maxLen_eq
      omega
    refine ⟨ys, ⟨some a, cap, by rw [hys], by omega, rfl, by omega, fun _ => ⟨a, rfl, fun j p hp => ?_⟩⟩, by omega, .inr ⟨_, _, rfl, by simp [hys], fun i y e hi he' => ?_⟩⟩
    · have hj : j < len := by
        have := (List.getElem?_eq_some_iff.1 hp).1
        omega
      obtain ⟨y, c, h1, h2, h3, _, h4⟩ := hy j hj
      rw [h1] at hp
      obtain rfl := Option.some.inj hp
      exact ⟨c, h2, h3, h4⟩
    · have hj : i < len := by
        have := (List.getElem?_eq_some_iff.1 hi).1
        omega
      obtain ⟨y', c, h1, h2, h3, h5, h4⟩ := hy i hj
      rw [h1] at hi
      obtain rfl := Option.some.inj hi
      rw [List.getElem?_map, List.getElem?_range hj] at he'
      obtain rfl := Option.some.inj he'
      exact h5
/-- A row's argument that is a slice. -/
theorem open_sl {P : Program} {t e : TypeId} {α : Type} {d : Kd α} {D : List α → DataW H → Prop} {enc : TypeId × Value → H} {w : World} {base : Nat} {spare : Nat → Bool} {held : Bool} {v : Value} {x : DataW H} {ps : List MemPlace} {r : Reach} {b0 : Nat}
    (hr : Rdr P t (Kd.slice e d) D) (ht : P.underlying t = some (.slice e)) (hv : Value.okWide P w r b0 t v) (h : DataW.Trod enc P w base spare held t v x ps) :
    ∃ A c l, v = .slice A (List.length l) c ∧ l.length ≤ c ∧ d.C w A l.length l ∧ D l x := by
  obtain ⟨fuel, hf⟩ := h
  obtain ⟨a, len, cap, rfl⟩ := okWide_slice ht hv
  obtain ⟨l, ⟨A, c, hcs, hlc, hC⟩, hd⟩ := hr _ _ _ _ _ _ _ _ hf
  simp [Value.cells] at hcs
  obtain ⟨rfl, rfl, rfl⟩ := hcs
  exact ⟨_, _, l, rfl, hlc, hC, hd⟩
end
end Go.Proofs.YtkmmlfphcfcbgaaGreatDoor.Read

/- The arguments of layer 9's laws, read as data: groups of records; what their weights allow. -/
namespace Go.Proofs.YtkmmlfphcfcbgaaGreatDoor.Dw
open Go.RowKit Go.ChangeShapes Go.WideShapes Go.Proofs.YtkmmlfphcfcbgaaGreatDoor.Read Go.Proofs.YtkmmlfphcfcbgaaGreatDoor.Mp Go.Proofs.YtkmmlfphcfcbgaaGreatDoor.Dm Go.Proofs.YtkmmlfphcfcbgaaGreatDoor.Da
open Go.Proofs.YtkmmlfphcfcbgaaGreatDoor.Sg (Group)
open Go.Proofs.YtkmmlfphcfcbgaaGreatDoorW.PrintWords (Kd ReadsInt)
set_option linter.unusedVariables false
set_option linter.unusedSimpArgs false
set_option linter.unusedSectionVars false
section
variable {H : Type}
/-- A datum of a type keeps to its weights. -/
def Fits (t : TypeId) (d : DataW H) : Prop := ∀ n, n ∈ d.weights Tryz.prog t → n ≤ reachBytes
theorem fits_arg {ts : List TypeId} {ds : List (DataW H)} (h : (DataW.weightsEach Tryz.prog ts ds).all (· ≤ reachBytes) = true) {j : Nat} {t : TypeId} {d : DataW H} (ht : ts[j]? = some t) (hd : ds[j]? = some d) : Fits t d := fun n hn => by
  have := List.all_eq_true.1 h n (DataW.weights_mem_each ht hd n hn)
  simpa using this
theorem weights_all {e : TypeId} : ∀ {l : List (DataW H)} {d : DataW H}, d ∈ l → ∀ n, n ∈ d.weights Tryz.prog e → n ∈ DataW.weightsAll Tryz.prog e l
  | x :: l, d, hd, n, hn => by
    simp only [DataW.weightsAll, List.mem_append]
    rcases List.mem_cons.1 hd with rfl | h
    · exact .inl hn
    · exact .inr (weights_all h n hn)
theorem fits_slice {t e : TypeId} {es sp : List (DataW H)} (h : Fits t (.slice es sp)) (hu : Tryz.prog.underlying t = some (.slice e)) : es.length * Tryz.prog.bytesOf e ≤ reachBytes ∧ ∀ d, d ∈ es → Fits e d := by
  have hw : DataW.weights Tryz.prog t (.slice es sp) = (es.length + sp.length) * Tryz.prog.bytesOf e :: (DataW.weightsAll Tryz.prog e es ++ DataW.weightsAll Tryz.prog e sp) := by simp [DataW.weights, hu]
  constructor
  · have := h _ (by rw [hw]; exact List.mem_cons_self)
    exact Nat.le_trans (Nat.mul_le_mul_right _ (Nat.le_add_right _ _)) this
  · intro d hd n hn
    exact h n (by rw [hw]; exact List.mem_cons_of_mem _ (List.mem_append_left _ (weights_all hd n hn)))
/-- Whole numbers in a slice. -/
theorem ints_wf {k : IntKind} {l : List Int} {d : DataW H} (h : DSlice (DInt k) l d) : ∀ x, x ∈ l → (Lit.int k x).wf = true := by
  intro x hx
  obtain ⟨j, hj⟩ := List.getElem?_of_mem hx
  rcases h.2 with ⟨rfl, _⟩ | ⟨es, sp, rfl, hes, hD⟩
  · simp at hj
  · have hjl := (List.getElem?_eq_some_iff.1 hj).1
    exact (hD j x _ hj (List.getElem?_eq_getElem (by omega))).2
theorem u8_wf {l : List Int} {d : DataW H} (h : DSlice (DInt .u8) l d) : ∀ x, x ∈ l → 0 ≤ x ∧ x < 256 := fun x hx => by
  have := ints_wf h x hx
  simp [Lit.wf, IntKind.min, IntKind.max, IntKind.bits, IntKind.signed] at this
  exact ⟨by omega, by omega⟩
set_option maxRecDepth 100000 in
theorem slice_len {α : Type} {t e : TypeId} {D : α → DataW H → Prop} {l : List α} {d : DataW H} (h : DSlice D l d) (hf : Fits t d) (hu : Tryz.prog.underlying t = some (.slice e)) : l.length * Tryz.prog.bytesOf e ≤ reachBytes := by
  rcases h.2 with ⟨rfl, _⟩ | ⟨es, sp, rfl, hes, _⟩
  · simp
  · rw [← hes]; exact (fits_slice hf hu).1
set_option maxRecDepth 100000 in
theorem slice_elem {α : Type} {t e : TypeId} {D : α → DataW H → Prop} {l : List α} {d : DataW H} (h : DSlice D l d) (hf : Fits t d) (hu : Tryz.prog.underlying t = some (.slice e)) {x : α} (hx : x ∈ l) : ∃ dx, D x dx ∧ Fits e dx := by
  obtain ⟨j, hj⟩ := List.getElem?_of_mem hx
  rcases h.2 with ⟨rfl, _⟩ | ⟨es, sp, rfl, hes, hD⟩
  · simp at hj
  · have hjl := (List.getElem?_eq_some_iff.1 hj).1
    have he : es[j]? = some es[j] := List.getElem?_eq_getElem (by omega)
    exact ⟨_, hD j x _ hj he, (fits_slice hf hu).2 _ (List.getElem_mem _)⟩
abbrev recK : Kd (List Int) := Kd.slice 5 (Kd.int .u8)
abbrev recsK : Kd (List (List Int)) := Kd.slice 36 recK
abbrev DRecs (rs : List (List Int)) (d : DataW H) : Prop := DSlice (DSlice (DInt .u8)) rs d
theorem rdr_u8s : Rdr (H := H) Tryz.prog 36 recK (DSlice (DInt .u8)) := rdr_slice Tryz.underlying36 (by kernel_rfl) (rdr_int Tryz.underlying5)
theorem rdr_recs : Rdr (H := H) Tryz.prog 23 recsK DRecs := rdr_slice Tryz.underlying23 (by kernel_rfl) rdr_u8s
theorem bytes_u8 : Tryz.prog.bytesOf 5 = 1 := by kernel_rfl
theorem bytes_bytes : Tryz.prog.bytesOf 36 = 24 := by kernel_rfl
theorem reach_eq : reachBytes = 140737488351232 := by decide
set_option maxRecDepth 100000 in
theorem rec_ok {r : List Int} {d : DataW H} (h : DSlice (DInt .u8) r d) (hf : Fits 36 d) : r.length ≤ 140737488355328 ∧ ∀ x, x ∈ r → 0 ≤ x ∧ x < 256 := by
  have l1 := slice_len h hf Tryz.underlying36
  rw [bytes_u8, reach_eq] at l1
  exact ⟨by omega, u8_wf h⟩
set_option maxRecDepth 100000 in
theorem recs_ok {rs : List (List Int)} {d : DataW H} (h : DRecs rs d) (hf : Fits 23 d) : rs.length ≤ 140737488355328 ∧ ∀ r, r ∈ rs → r.length ≤ 140737488355328 ∧ ∀ x, x ∈ r → 0 ≤ x ∧ x < 256 := by
  have l1 := slice_len h hf Tryz.underlying23
  rw [bytes_bytes, reach_eq] at l1
  refine ⟨by omega, fun r hr => ?_⟩
  obtain ⟨dx, h1, h2⟩ := slice_elem h hf Tryz.underlying23 hr
  exact rec_ok h1 h2
end
theorem u64_nat {x : Int} (h : (Lit.int .u64 x).wf = true) : ∃ n : Nat, x = n ∧ n < 18446744073709551616 := by
  simp [Lit.wf, IntKind.min, IntKind.max, IntKind.bits, IntKind.signed] at h
  exact ⟨x.toNat, by omega, by omega⟩
theorem C_reads9 {w : World} {A : Option Addr} {xs : List Int} (h : (Kd.int .u8).C w A xs.length xs) : ReadsInt w .u8 A xs.length xs := Go.Proofs.YtkmmlfphcfcbgaaGreatDoorW.PrintWords.Kd.reads_of_C (enc := Value.int .u8) (d := (0 : Int)) (h1 := fun _ => rfl) h
theorem recsAt_of {w : World} {A : Option Addr} {n : Nat} {rs : List (List Int)} (h : recK.C w A n rs) (hn : n = rs.length) : RecsAt w A rs := by
  intro j hj
  obtain ⟨a, rfl, h3⟩ := h.2.2 (by omega)
  obtain ⟨c, h4, ⟨p, k, e, h5, h6⟩, h7⟩ := h3 j rs[j] (List.getElem?_eq_getElem hj)
  subst e
  refine ⟨a, p, k, rfl, ?_, h5, C_reads9 h6⟩
  have := h7 0 _ rfl
  have e1 : recK.sz = 1 := rfl
  rw [e1] at this
  simpa using this
section
variable {H : Type} {enc : TypeId × Value → H} {w : World} {base : Nat} {spare : Nat → Bool} {held : Bool} {v : Value} {x : DataW H} {ps : List MemPlace} {r : Reach} {b0 : Nat}
set_option maxRecDepth 100000 in
theorem recs_arg (hv : Value.okWide Tryz.prog w r b0 23 v) (h : DataW.Trod enc Tryz.prog w base spare held 23 v x ps) (hf : Fits 23 x) :
    ∃ A c rs, v = .slice A (List.length rs) c ∧ rs.length ≤ c ∧ RecsAt w A rs ∧ rs.length ≤ 140737488355328 ∧ ∀ r, r ∈ rs → r.length ≤ 140737488355328 ∧ ∀ x, x ∈ r → 0 ≤ x ∧ x < 256 := by
  obtain ⟨A, c, rs, rfl, hlc, hC, hd⟩ := open_sl rdr_recs Tryz.underlying23 hv h
  have ok := recs_ok hd hf
  exact ⟨A, c, rs, rfl, hlc, recsAt_of hC rfl, ok⟩
end
end Go.Proofs.YtkmmlfphcfcbgaaGreatDoor.Dw

/- The tables and the errors as layer 9's rows lay them, and a world for the witnesses (printed by wip/tools/gen_row9.py). -/
namespace Go.Proofs.YtkmmlfphcfcbgaaGreatDoor.Row9m
open Go.ChangeShapes Go.WideShapes Go.ChangeAt Go.RowKit Go.Proofs.YtkmmlfphcfcbgaaGreatDoor.Read Go.Proofs.YtkmmlfphcfcbgaaGreatDoor.Dm Go.Proofs.YtkmmlfphcfcbgaaGreatDoor.Da Go.Proofs.YtkmmlfphcfcbgaaGreatDoor.Dw Go.Proofs.YtkmmlfphcfcbgaaGreatDoorW.PrintWords
set_option linter.unusedVariables false
set_option linter.unusedSimpArgs false
theorem own : ownKnob Tryz.prog.godebug = none := by kernel_rfl
theorem laidOut : laidOutB Tryz.prog = true := by kernel_rfl
theorem star : "*" ++ "errors.errorString" = "*errors.errorString" := by decide
theorem rowE (u : TypeId) (h : Tryz.prog.typeName? 3 u = some "*errors.errorString") : u = 311 :=
  typeName_ptr_named (nm := "errors.errorString") (by rw [star]; kernel_rfl) (by kernel_rfl) (by decide) u (by rw [star]; exact h)
theorem cellsE : Tryz.prog.cellsOf 313 = 1 := by kernel_rfl
theorem cellsS : Tryz.prog.cellsOf 9 = 1 := by kernel_rfl
set_option maxRecDepth 100000 in
theorem one {W : World} {n : String} {g0 : Nat} {text : List UInt8} {rest : List (String × DataW Unit)} {ps : List MemPlace} (hg0 : Tryz.prog.globalNamed n = some g0) (ht0 : (Tryz.prog.globals[g0]?).map (·.type) = some 33)
    (h : DataW.LaidVars Tryz.prog W ((n, .iface "*errors.errorString" (.ptr (.agg [.lit (.string text)]))) :: rest) ps)
    (hrows : ∀ b off, MemPlace.cell b off ∈ ps → (∃ c t, W.heap[b]? = some (.cells c t (0, 0))) ∧ ∀ u v, W.cell? ⟨b, off, none⟩ = some (.iface u v) → Value.okWide Tryz.prog W .any 0 u v) :
    ∃ a q, W.cell? ⟨g0, 0, none⟩ = some (.iface 311 (.pointer (some a))) ∧ (∃ c t, W.heap[a.block]? = some (.cells c t (0, 0))) ∧ DataW.LaidVars Tryz.prog W rest q ∧ ps = .cell g0 0 :: .cell a.block a.off :: q := by
  obtain ⟨g, t, cs, fuel, p, q, hg, ht, hv, hd, hq, e⟩ := h
  obtain rfl := Option.some.inj (hg0.symm.trans hg)
  obtain rfl := Option.some.inj (ht0.symm.trans ht)
  subst e
  obtain ⟨l⟩ := cs
  have ok : ∀ u v, l = [.iface u v] → Value.okWide Tryz.prog W .any 0 u v := fun u v e => by
    subst e
    exact (hrows g0 0 (by simp [MemPlace.row])).2 u v (by simpa using World.var?_cell hg0 hv 0)
  obtain ⟨a, s, rfl, hc, hs, hz, rfl⟩ := errorString_of_trod Tryz.underlying33 rowE Tryz.underlying311 Tryz.underlying313 rfl rfl Tryz.underlying9 cellsE cellsS hd ok
  exact ⟨a, q, by simpa using World.var?_cell hg0 hv 0, (hrows a.block a.off (by simp [MemPlace.row])).1, hq, by simp [MemPlace.row]⟩
theorem inj_of_nodup {α β : Type} {f : α → β} : ∀ {l : List α}, (l.map f).Nodup → ∀ x y, x ∈ l → y ∈ l → f x = f y → x = y
  | [], _, _, _, hx, _, _ => by cases hx
  | a :: l, h, x, y, hx, hy, e => by
    rw [List.map_cons, List.nodup_cons] at h
    rcases List.mem_cons.1 hx with hxa | hx2
    · rcases List.mem_cons.1 hy with hya | hy2
      · rw [hxa, hya]
      · exact absurd (List.mem_map.2 ⟨y, hy2, by rw [← e, hxa]⟩) h.1
    · rcases List.mem_cons.1 hy with hya | hy2
      · exact absurd (List.mem_map.2 ⟨x, hx2, by rw [e, hya]⟩) h.1
      · exact inj_of_nodup h.2 x y hx2 hy2 e
theorem skip {W : World} {x : String × DataW Unit} {rest : List (String × DataW Unit)} {ps : List MemPlace} (h : DataW.LaidVars Tryz.prog W (x :: rest) ps) : ∃ q, DataW.LaidVars Tryz.prog W rest q ∧ q.Sublist ps := by
  obtain ⟨n, d⟩ := x
  obtain ⟨g, t, cs, fuel, p, q, _, _, _, _, hq, e⟩ := h
  exact ⟨q, hq, by rw [e]; exact List.sublist_append_right _ _⟩
theorem tab {W : World} {n : String} {g0 N : Nat} {t e : TypeId} {k : IntKind} {zs : List Int} {rest : List (String × DataW Unit)} {ps : List MemPlace} (hg0 : Tryz.prog.globalNamed n = some g0) (ht0 : (Tryz.prog.globals[g0]?).map (·.type) = some t)
    (hu : Tryz.prog.underlying t = some (.array N e)) (he : Tryz.prog.underlying e = some (.int k)) (hce : Tryz.prog.cellsOf e = 1) (hct : Tryz.prog.cellsOf t = N) (h : DataW.LaidVars Tryz.prog W ((n, Lib.tabData k zs) :: rest) ps) : ∀ j : Nat, W.cell? ⟨g0, j, none⟩ = (zs[j]?).map (Value.int k) := by
  obtain ⟨g, t', cs, fuel, p, q, hg, ht, hv, hd, hq, e⟩ := h
  obtain rfl := Option.some.inj (hg0.symm.trans hg)
  obtain rfl := Option.some.inj (ht0.symm.trans ht)
  have hcs := Lib.cells_of_tab hu he hce hct hd
  intro j
  rw [World.var?_cell hg0 hv j, ← Array.getElem?_toList, hcs, List.getElem?_map]
def tab64 : List Int := [0, 1, 56, 2, 57, 49, 28, 3, 61, 58, 42, 50, 38, 29, 17, 4, 62, 47, 59, 36, 45, 43, 51, 22, 53, 39, 33, 30, 24, 18, 12, 5, 63, 55, 48, 27, 60, 41, 37, 16, 46, 35, 44, 21, 52, 32, 23, 11, 54, 26, 40, 15, 34, 20, 31, 10, 25, 14, 19, 9, 13, 8, 7, 6]
def tabH : List Int := [0, 274646895, 549293790, 820201905, 1098587580, 1361435347, 1640403810, 1905808397, 2197175160, 2460548119, 2722870694, 2987750089, 3280807620, 3553878443, 3811616794, 4084100981]
set_option maxRecDepth 100000 in
theorem tab64_is : ∀ j, j < 64 → tab64[j]? = some ((Lib.deBruijn64tab.getD j 0 : Nat) : Int) := by decide +kernel
set_option maxRecDepth 100000 in
theorem tabH_is : ∀ j, j < 16 → tabH[j]? = some ((Sg.halfs.getD j 0 : Nat) : Int) := by decide +kernel
def L9m : List Err := [1, 2, 3, 4, 5, 6, 7, 8, 9, 13, 15]
set_option maxRecDepth 100000 in
theorem laid9 {W : World} (h : laidMet Tryz.prog Rows.segmentMemoryUptoRow.laid W) : ∃ eb, ErrsAt W.heap.size W eb L9m ∧ Env W.heap.size W L9m := by
  obtain ⟨ps, hl, hnd0, hrows0⟩ := h
  have zz0 : ps.Sublist ps := List.Sublist.refl _
  obtain ⟨y1, s1, z1⟩ := skip hl
  have zz1 := z1.trans zz0
  have T64 := tab (n := "math/bits.deBruijn64tab") (g0 := 18) (t := 336) (e := 5) (N := 64) (k := .u8) (zs := tab64) (by kernel_rfl) (by kernel_rfl) Tryz.underlying336 Tryz.underlying5 (by kernel_rfl) (by kernel_rfl) s1
  obtain ⟨y2, s2, z2⟩ := skip s1
  have zz2 := z2.trans zz1
  obtain ⟨y3, s3, z3⟩ := skip s2
  have zz3 := z3.trans zz2
  have TH := tab (n := "turnstile/crc.halves") (g0 := 12) (t := 245) (e := 151) (N := 16) (k := .u32) (zs := tabH) (by kernel_rfl) (by kernel_rfl) Tryz.underlying245 Tryz.underlying151 (by kernel_rfl) (by kernel_rfl) s3
  obtain ⟨y4, s4, z4⟩ := skip s3
  have zz4 := z4.trans zz3
  obtain ⟨y5, s5, z5⟩ := skip s4
  have zz5 := z5.trans zz4
  have hnd := hnd0.sublist zz5
  have hrows := fun b o (hp : MemPlace.cell b o ∈ y5) => hrows0 b o (zz5.subset hp)
  clear hnd0 hrows0 zz1 z1 zz2 z2 zz3 z3 zz4 z4 zz5 z5
  obtain ⟨a1, q1, c1, b1, hl1, rfl⟩ := one (n := "turnstile/api.ErrArg") (g0 := 3) (by kernel_rfl) (by kernel_rfl) s5 hrows
  obtain ⟨a2, q2, c2, b2, hl2, rfl⟩ := one (n := "turnstile/api.ErrShort") (g0 := 7) (by kernel_rfl) (by kernel_rfl) hl1 (fun b o hp => hrows b o (by simp [hp]))
  obtain ⟨a3, q3, c3, b3, hl3, rfl⟩ := one (n := "turnstile/api.ErrForm") (g0 := 8) (by kernel_rfl) (by kernel_rfl) hl2 (fun b o hp => hrows b o (by simp [hp]))
  obtain ⟨a4, q4, c4, b4, hl4, rfl⟩ := one (n := "turnstile/api.ErrLong") (g0 := 10) (by kernel_rfl) (by kernel_rfl) hl3 (fun b o hp => hrows b o (by simp [hp]))
  obtain ⟨a5, q5, c5, b5, hl5, rfl⟩ := one (n := "turnstile/api.ErrSum") (g0 := 9) (by kernel_rfl) (by kernel_rfl) hl4 (fun b o hp => hrows b o (by simp [hp]))
  obtain ⟨a6, q6, c6, b6, hl6, rfl⟩ := one (n := "turnstile/api.ErrIo") (g0 := 11) (by kernel_rfl) (by kernel_rfl) hl5 (fun b o hp => hrows b o (by simp [hp]))
  obtain ⟨a7, q7, c7, b7, hl7, rfl⟩ := one (n := "turnstile/api.ErrDown") (g0 := 5) (by kernel_rfl) (by kernel_rfl) hl6 (fun b o hp => hrows b o (by simp [hp]))
  obtain ⟨a8, q8, c8, b8, hl8, rfl⟩ := one (n := "turnstile/api.ErrGone") (g0 := 0) (by kernel_rfl) (by kernel_rfl) hl7 (fun b o hp => hrows b o (by simp [hp]))
  obtain ⟨a9, q9, c9, b9, hl9, rfl⟩ := one (n := "turnstile/api.ErrThere") (g0 := 4) (by kernel_rfl) (by kernel_rfl) hl8 (fun b o hp => hrows b o (by simp [hp]))
  obtain ⟨a13, q13, c13, b13, hl13, rfl⟩ := one (n := "turnstile/api.ErrSick") (g0 := 2) (by kernel_rfl) (by kernel_rfl) hl9 (fun b o hp => hrows b o (by simp [hp]))
  obtain ⟨a15, q15, c15, b15, hl15, rfl⟩ := one (n := "turnstile/api.ErrNil") (g0 := 1) (by kernel_rfl) (by kernel_rfl) hl13 (fun b o hp => hrows b o (by simp [hp]))
  let ea : Nat → Addr := fun c => if c = 1 then a1 else if c = 2 then a2 else if c = 3 then a3 else if c = 4 then a4 else if c = 5 then a5 else if c = 6 then a6 else if c = 7 then a7 else if c = 8 then a8 else if c = 9 then a9 else if c = 13 then a13 else a15
  have lt : ∀ {g : Nat} {v : Value}, W.cell? ⟨g, 0, none⟩ = some v → g < W.heap.size := fun h => World.block_lt_of_cell? W _ h
  have hsub : (([1, 2, 3, 4, 5, 6, 7, 8, 9, 13, 15] : List Nat).map fun c => MemPlace.cell (ea c).block (ea c).off).Nodup := by
    refine hnd.sublist ?_
    exact (.cons _ (.cons_cons _ (.cons _ (.cons_cons _ (.cons _ (.cons_cons _ (.cons _ (.cons_cons _ (.cons _ (.cons_cons _ (.cons _ (.cons_cons _ (.cons _ (.cons_cons _ (.cons _ (.cons_cons _ (.cons _ (.cons_cons _ (.cons _ (.cons_cons _ (.cons _ (.cons_cons _ (List.nil_sublist _)))))))))))))))))))))))
  have hb : ∀ {a : Addr}, (∃ c t, W.heap[a.block]? = some (.cells c t (0, 0))) → a.block < W.heap.size := fun ⟨_, _, h⟩ => (Array.getElem?_eq_some_iff.1 h).1
  refine ⟨ea, ⟨?_, ?_, ?_, ?_, ?_, by decide⟩, ⟨⟨?_, ?_⟩, ?_, ?_, by decide⟩⟩
  · intro c hc
    simp only [L9m, List.mem_cons, List.not_mem_nil, or_false] at hc
    rcases hc with rfl | rfl | rfl | rfl | rfl | rfl | rfl | rfl | rfl | rfl | rfl
    · exact c1
    · exact c2
    · exact c3
    · exact c4
    · exact c5
    · exact c6
    · exact c7
    · exact c8
    · exact c9
    · exact c13
    · exact c15
  · intro c hc
    simp only [L9m, List.mem_cons, List.not_mem_nil, or_false] at hc
    rcases hc with rfl | rfl | rfl | rfl | rfl | rfl | rfl | rfl | rfl | rfl | rfl
    · exact b1
    · exact b2
    · exact b3
    · exact b4
    · exact b5
    · exact b6
    · exact b7
    · exact b8
    · exact b9
    · exact b13
    · exact b15
  · intro c hc
    simp only [L9m, List.mem_cons, List.not_mem_nil, or_false] at hc
    rcases hc with rfl | rfl | rfl | rfl | rfl | rfl | rfl | rfl | rfl | rfl | rfl
    · exact hb b1
    · exact hb b2
    · exact hb b3
    · exact hb b4
    · exact hb b5
    · exact hb b6
    · exact hb b7
    · exact hb b8
    · exact hb b9
    · exact hb b13
    · exact hb b15
  · intro c hc
    simp only [L9m, List.mem_cons, List.not_mem_nil, or_false] at hc
    rcases hc with rfl | rfl | rfl | rfl | rfl | rfl | rfl | rfl | rfl | rfl | rfl
    · exact lt c1
    · exact lt c2
    · exact lt c3
    · exact lt c4
    · exact lt c5
    · exact lt c6
    · exact lt c7
    · exact lt c8
    · exact lt c9
    · exact lt c13
    · exact lt c15
  · intro a b ha hb e
    exact inj_of_nodup hsub a b ha hb (by show MemPlace.cell (ea a).block (ea a).off = MemPlace.cell (ea b).block (ea b).off; rw [e])
  · intro j hj
    rw [TH j, tabH_is j hj]; rfl
  · have h0 := TH 0
    exact World.block_lt_of_cell? W _ h0
  · intro j hj
    have hj2 : j < 64 := hj
    rw [T64 j, tab64_is j hj2]; rfl
  · have h0 := T64 0
    exact World.block_lt_of_cell? W _ h0
/-- A WORLD FOR THE WITNESS: the settled one, with the tables and the errors. -/
noncomputable def low : Nat := (World.holding Tryz.prog default ⟨#[], #[], []⟩).heap.size
def laidBlocks : Array Obj := #[.cells #[.string ⟨#[97, 110, 32, 97, 114, 103, 117, 109, 101, 110, 116, 32, 111, 117, 116, 115, 105, 100, 101, 32, 119, 104, 97, 116, 32, 116, 104, 101, 32, 99, 97, 108, 108, 32, 116, 97, 107, 101, 115]⟩] 313,
  .cells #[.string ⟨#[116, 104, 101, 32, 98, 121, 116, 101, 115, 32, 101, 110, 100, 32, 116, 111, 111, 32, 101, 97, 114, 108, 121]⟩] 313,
  .cells #[.string ⟨#[116, 104, 101, 32, 98, 121, 116, 101, 115, 32, 104, 97, 118, 101, 32, 97, 110, 111, 116, 104, 101, 114, 32, 102, 111, 114, 109]⟩] 313,
  .cells #[.string ⟨#[109, 111, 114, 101, 32, 116, 104, 97, 110, 32, 116, 104, 101, 32, 108, 105, 109, 105, 116]⟩] 313,
  .cells #[.string ⟨#[116, 104, 101, 32, 115, 117, 109, 32, 105, 115, 32, 97, 110, 111, 116, 104, 101, 114, 32, 111, 110, 101]⟩] 313,
  .cells #[.string ⟨#[116, 104, 101, 32, 100, 105, 115, 107, 32, 102, 97, 105, 108, 101, 100]⟩] 313,
  .cells #[.string ⟨#[116, 104, 101, 32, 112, 111, 119, 101, 114, 32, 105, 115, 32, 111, 102, 102]⟩] 313,
  .cells #[.string ⟨#[110, 111, 32, 115, 117, 99, 104, 32, 102, 105, 108, 101]⟩] 313,
  .cells #[.string ⟨#[116, 104, 101, 114, 101, 32, 105, 115, 32, 115, 117, 99, 104, 32, 97, 32, 102, 105, 108, 101]⟩] 313,
  .cells #[.string ⟨#[97, 110, 32, 101, 97, 114, 108, 105, 101, 114, 32, 119, 114, 105, 116, 101, 32, 102, 97, 105, 108, 101, 100]⟩] 313,
  .cells #[.string ⟨#[110, 111, 32, 111, 98, 106, 101, 99, 116]⟩] 313]
def lay (g k : Nat) (h : Array Obj) (low : Nat) : Array Obj := h.modify g fun
  | .cells _ t frozen => .cells #[.iface 311 (.pointer (some ⟨low + k, 0, none⟩))] t frozen
  | o => o
def layTab (g : Nat) (cs : Array Value) (h : Array Obj) : Array Obj := h.modify g fun
  | .cells _ t frozen => .cells cs t frozen
  | o => o
def t_bits_deBruijn32tab : Array Value := #[.int .u8 0, .int .u8 1, .int .u8 28, .int .u8 2, .int .u8 29, .int .u8 14, .int .u8 24, .int .u8 3, .int .u8 30, .int .u8 22, .int .u8 20, .int .u8 15, .int .u8 25, .int .u8 17, .int .u8 4, .int .u8 8, .int .u8 31, .int .u8 27, .int .u8 13, .int .u8 23, .int .u8 21, .int .u8 19, .int .u8 16, .int .u8 7, .int .u8 26, .int .u8 12, .int .u8 18, .int .u8 6, .int .u8 11, .int .u8 5, .int .u8 10, .int .u8 9]
def t_bits_deBruijn64tab : Array Value := #[.int .u8 0, .int .u8 1, .int .u8 56, .int .u8 2, .int .u8 57, .int .u8 49, .int .u8 28, .int .u8 3, .int .u8 61, .int .u8 58, .int .u8 42, .int .u8 50, .int .u8 38, .int .u8 29, .int .u8 17, .int .u8 4, .int .u8 62, .int .u8 47, .int .u8 59, .int .u8 36, .int .u8 45, .int .u8 43, .int .u8 51, .int .u8 22, .int .u8 53, .int .u8 39, .int .u8 33, .int .u8 30, .int .u8 24, .int .u8 18, .int .u8 12, .int .u8 5, .int .u8 63, .int .u8 55, .int .u8 48, .int .u8 27, .int .u8 60, .int .u8 41, .int .u8 37, .int .u8 16, .int .u8 46, .int .u8 35, .int .u8 44, .int .u8 21, .int .u8 52, .int .u8 32, .int .u8 23, .int .u8 11, .int .u8 54, .int .u8 26, .int .u8 40, .int .u8 15, .int .u8 34, .int .u8 20, .int .u8 31, .int .u8 10, .int .u8 25, .int .u8 14, .int .u8 19, .int .u8 9, .int .u8 13, .int .u8 8, .int .u8 7, .int .u8 6]
def t_strconv_uint64pow10 : Array Value := #[.int .u64 1, .int .u64 10, .int .u64 100, .int .u64 1000, .int .u64 10000, .int .u64 100000, .int .u64 1000000, .int .u64 10000000, .int .u64 100000000, .int .u64 1000000000, .int .u64 10000000000, .int .u64 100000000000, .int .u64 1000000000000, .int .u64 10000000000000, .int .u64 100000000000000, .int .u64 1000000000000000, .int .u64 10000000000000000, .int .u64 100000000000000000, .int .u64 1000000000000000000, .int .u64 10000000000000000000]
def t_crc_halves : Array Value := #[.int .u32 0, .int .u32 274646895, .int .u32 549293790, .int .u32 820201905, .int .u32 1098587580, .int .u32 1361435347, .int .u32 1640403810, .int .u32 1905808397, .int .u32 2197175160, .int .u32 2460548119, .int .u32 2722870694, .int .u32 2987750089, .int .u32 3280807620, .int .u32 3553878443, .int .u32 3811616794, .int .u32 4084100981]
def t_utf8_acceptRanges : Array Value := #[.int .u8 128, .int .u8 191, .int .u8 160, .int .u8 191, .int .u8 128, .int .u8 159, .int .u8 144, .int .u8 191, .int .u8 128, .int .u8 143, .int .u8 0, .int .u8 0, .int .u8 0, .int .u8 0, .int .u8 0, .int .u8 0, .int .u8 0, .int .u8 0, .int .u8 0, .int .u8 0, .int .u8 0, .int .u8 0, .int .u8 0, .int .u8 0, .int .u8 0, .int .u8 0, .int .u8 0, .int .u8 0, .int .u8 0, .int .u8 0, .int .u8 0, .int .u8 0]
def t_utf8_first : Array Value := #[.int .u8 240, .int .u8 240, .int .u8 240, .int .u8 240, .int .u8 240, .int .u8 240, .int .u8 240, .int .u8 240, .int .u8 240, .int .u8 240, .int .u8 240, .int .u8 240, .int .u8 240, .int .u8 240, .int .u8 240, .int .u8 240, .int .u8 240, .int .u8 240, .int .u8 240, .int .u8 240, .int .u8 240, .int .u8 240, .int .u8 240, .int .u8 240, .int .u8 240, .int .u8 240, .int .u8 240, .int .u8 240, .int .u8 240, .int .u8 240, .int .u8 240, .int .u8 240, .int .u8 240, .int .u8 240, .int .u8 240, .int .u8 240, .int .u8 240, .int .u8 240, .int .u8 240, .int .u8 240, .int .u8 240, .int .u8 240, .int .u8 240, .int .u8 240, .int .u8 240, .int .u8 240, .int .u8 240, .int .u8 240, .int .u8 240, .int .u8 240, .int .u8 240, .int .u8 240, .int .u8 240, .int .u8 240, .int .u8 240, .int .u8 240, .int .u8 240, .int .u8 240, .int .u8 240, .int .u8 240, .int .u8 240, .int .u8 240, .int .u8 240, .int .u8 240, .int .u8 240, .int .u8 240, .int .u8 240, .int .u8 240, .int .u8 240, .int .u8 240, .int .u8 240, .int .u8 240, .int .u8 240, .int .u8 240, .int .u8 240, .int .u8 240, .int .u8 240, .int .u8 240, .int .u8 240, .int .u8 240, .int .u8 240, .int .u8 240, .int .u8 240, .int .u8 240, .int .u8 240, .int .u8 240, .int .u8 240, .int .u8 240, .int .u8 240, .int .u8 240, .int .u8 240, .int .u8 240, .int .u8 240, .int .u8 240, .int .u8 240, .int .u8 240, .int .u8 240, .int .u8 240, .int .u8 240, .int .u8 240, .int .u8 240, .int .u8 240, .int .u8 240, .int .u8 240, .int .u8 240, .int .u8 240, .int .u8 240, .int .u8 240, .int .u8 240, .int .u8 240, .int .u8 240, .int .u8 240, .int .u8 240, .int .u8 240, .int .u8 240, .int .u8 240, .int .u8 240, .int .u8 240, .int .u8 240, .int .u8 240, .int .u8 240, .int .u8 240, .int .u8 240, .int .u8 240, .int .u8 240, .int .u8 240, .int .u8 240, .int .u8 240, .int .u8 241, .int .u8 241, .int .u8 241, .int .u8 241, .int .u8 241, .int .u8 241, .int .u8 241, .int .u8 241, .int .u8 241, .int .u8 241, .int .u8 241, .int .u8 241, .int .u8 241, .int .u8 241, .int .u8 241, .int .u8 241, .int .u8 241, .int .u8 241, .int .u8 241, .int .u8 241, .int .u8 241, .int .u8 241, .int .u8 241, .int .u8 241, .int .u8 241, .int .u8 241, .int .u8 241, .int .u8 241, .int .u8 241, .int .u8 241, .int .u8 241, .int .u8 241, .int .u8 241, .int .u8 241, .int .u8 241, .int .u8 241, .int .u8 241, .int .u8 241, .int .u8 241, .int .u8 241, .int .u8 241, .int .u8 241, .int .u8 241, .int .u8 241, .int .u8 241, .int .u8 241, .int .u8 241, .int .u8 241, .int .u8 241, .int .u8 241, .int .u8 241, .int .u8 241, .int .u8 241, .int .u8 241, .int .u8 241, .int .u8 241, .int .u8 241, .int .u8 241, .int .u8 241, .int .u8 241, .int .u8 241, .int .u8 241, .int .u8 241, .int .u8 241, .int .u8 241, .int .u8 241, .int .u8 2, .int .u8 2, .int .u8 2, .int .u8 2, .int .u8 2, .int .u8 2, .int .u8 2, .int .u8 2, .int .u8 2, .int .u8 2, .int .u8 2, .int .u8 2, .int .u8 2, .int .u8 2, .int .u8 2, .int .u8 2, .int .u8 2, .int .u8 2, .int .u8 2, .int .u8 2, .int .u8 2, .int .u8 2, .int .u8 2, .int .u8 2, .int .u8 2, .int .u8 2, .int .u8 2, .int .u8 2, .int .u8 2, .int .u8 2, .int .u8 19, .int .u8 3, .int .u8 3, .int .u8 3, .int .u8 3, .int .u8 3, .int .u8 3, .int .u8 3, .int .u8 3, .int .u8 3, .int .u8 3, .int .u8 3, .int .u8 3, .int .u8 35, .int .u8 3, .int .u8 3, .int .u8 52, .int .u8 4, .int .u8 4, .int .u8 4, .int .u8 68, .int .u8 241, .int .u8 241, .int .u8 241, .int .u8 241, .int .u8 241, .int .u8 241, .int .u8 241, .int .u8 241, .int .u8 241, .int .u8 241, .int .u8 241]
noncomputable def laidWorld (os : Os) : World :=
  let w0 := World.holding Tryz.prog os ⟨laidBlocks, #[], []⟩
  { w0 with heap := layTab 19 t_utf8_first (layTab 20 t_utf8_acceptRanges (layTab 12 t_crc_halves (layTab 15 t_strconv_uint64pow10 (layTab 18 t_bits_deBruijn64tab (layTab 17 t_bits_deBruijn32tab (lay 1 10 (lay 2 9 (lay 4 8 (lay 0 7 (lay 5 6 (lay 11 5 (lay 9 4 (lay 10 3 (lay 8 2 (lay 7 1 (lay 3 0 w0.heap low) low) low) low) low) low) low) low) low) low) low)))))) }
end Go.Proofs.YtkmmlfphcfcbgaaGreatDoor.Row9m
