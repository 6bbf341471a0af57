/- A part of the proof of diskKeepsUpto_holds: Read, Fn, Fo, Gc. No condition. -/
import Derived.Deep.Slices
import Derived.Deep.Fields
import Derived.ChangeSame
import Derived.SizedLaws
import Derived.Carry
import Derived.ProofKit
import Derived.OpenShut
import Derived.ShutString
import Derived.ChangeOld
import Derived.Below
import Derived.LaidLaws
import Derived.Deep.DeepHandedRow
import Derived.Test.YtglhedahannjiaaGreatDoorRows
import Derived.Test.YtglhedahannjiaaGreatDoorCards
import Derived.Test.YtglhedahannjiaaGreatDoorTie
import Derived.Test.YtglhedahannjiaaGreatDoorK02

/- How an argument that can be read as data lies in memory, kind by kind: out of the reader's answer, the printed words' own facts (Kd) and the datum. -/
namespace Go.Proofs.YtglhedahannjiaaGreatDoor.Read
open Go.RowKit Go.ChangeShapes Go.WideShapes Go.Deep Go.Proofs.YtglhedahannjiaaGreatDoorW.PrintWords
set_option linter.unusedVariables false
set_option linter.unusedSimpArgs false
section
variable {H : Type}
/-- What type t's cells read as: a value by the kind d, its datum by D. -/
def Rdr (P : Program) (t : TypeId) {α : Type} (d : Kd α) (D : α → DataW H → Prop) : Prop :=
  ∀ (enc : TypeId × Value → H) (w : World) (base : Nat) (spare : Nat → Bool) (held : Bool) (fuel : Nat) (cs : List Value) (x : DataW H × List MemPlace),
    DataW.trod enc P w base spare held fuel t cs = some x → ∃ y, d.K w y cs ∧ D y x.1
def DInt (k : IntKind) (n : Int) (d : DataW H) : Prop := d = .lit (.int k n) ∧ (Lit.int k n).wf = true
def DStr (s : ByteArray) (d : DataW H) : Prop := d = .lit (.string s.data.toList) ∧ s.size ≤ maxLen
def DSlice {α : Type} (D : α → DataW H → Prop) (xs : List α) (d : DataW H) : Prop :=
  xs.length ≤ maxLen ∧ ((xs = [] ∧ d = .nil) ∨ ∃ es sp, d = .slice es sp ∧ es.length = xs.length ∧ ∀ (i : Nat) x e, xs[i]? = some x → es[i]? = some e → D x e)
def DAgg {α : Type} (DL : α → List (DataW H) → Prop) (x : α) (d : DataW H) : Prop := ∃ ds, d = .agg ds ∧ DL x ds
def D1 {α : Type} (D : α → DataW H → Prop) (x : α) (ds : List (DataW H)) : Prop := ∃ d, ds = [d] ∧ D x d
def DC {α β : Type} (D : α → DataW H → Prop) (DL : β → List (DataW H) → Prop) (x : α × β) (ds : List (DataW H)) : Prop := ∃ d r, ds = d :: r ∧ D x.1 d ∧ DL x.2 r
theorem rdr_int {P : Program} {t : TypeId} {k : IntKind} (ht : P.underlying t = some (.int k)) : Rdr (H := H) P t (Kd.int k) (DInt k) := by
  intro enc w base spare held fuel cs x h
  obtain ⟨n, rfl, rfl, hw⟩ := DataW.trod_int ht h
  exact ⟨n, rfl, rfl, hw⟩
theorem rdr_str {P : Program} {t : TypeId} (ht : P.underlying t = some .string) : Rdr (H := H) P t Kd.string DStr := by
  intro enc w base spare held fuel cs x h
  obtain ⟨s, rfl, rfl, hs⟩ := DataW.trod_string ht h
  exact ⟨s, rfl, rfl, hs⟩
theorem maxLen_eq : maxLen = 9223372036854775807 := by decide
theorem rdr_slice {P : Program} {t e : TypeId} {α : Type} {d : Kd α} {D : α → DataW H → Prop} (ht : P.underlying t = some (.slice e)) (hc : P.cellsOf e = d.sz) (he : Rdr P e d D) :
    Rdr P t (Kd.slice e d) (DSlice D) := by
  intro enc w base spare held fuel cs x h
  rcases open_slice ht h with ⟨rfl, rfl⟩ | ⟨a, len, cap, m, n, Ds, Pl, rfl, hb, hl, hm, hmm, rfl, hx⟩
  · exact ⟨[], ⟨none, 0, rfl, Nat.le_refl _, rfl, by simp, fun h => absurd h (by simp)⟩, Nat.zero_le _, .inl ⟨rfl, rfl⟩⟩
  · have hlm : len ≤ m := by rw [hmm]; split <;> omega
    have each : ∀ i, i < len → ∃ y c, c.length = d.sz ∧ d.K w y c ∧ D y (Ds i) ∧ ∀ j u, c[j]? = some u → w.cell? (a.add (i * d.sz + j)) = some u := by
      intro i hi
      obtain ⟨cs', h1, h2⟩ := hx i (by omega)
      rw [hc] at h1
      obtain ⟨_, hlen, hcell⟩ := World.cells?_some h1
      obtain ⟨y, hk, hd⟩ := he enc w base spare held n cs' _ h2
      refine ⟨y, cs', hlen, hk, hd, fun j u hj => ?_⟩
      have hj' : j < d.sz := by
        have := (List.getElem?_eq_some_iff.1 hj).1
        omega
      have := hcell j hj'
      rw [Go.Deep.add_add] at this
      rw [this, hj]
    obtain ⟨ys, hys, hy⟩ : ∃ ys : List α, ys.length = len ∧ ∀ i, i < len → ∃ y c, ys[i]? = some y ∧ c.length = d.sz ∧ d.K w y c ∧ D y (Ds i) ∧ ∀ j u, c[j]? = some u → w.cell? (a.add (i * d.sz + j)) = some u := by
      clear h hx hl hlm hmm hm hb
      induction len with
      | zero => exact ⟨[], rfl, fun i hi => absurd hi (Nat.not_lt_zero _)⟩
      | succ l ih =>
        obtain ⟨ys, h1, h2⟩ := ih (fun i hi => each i (by omega))
        obtain ⟨y, c, h3, h4, h5, h6⟩ := each l (by omega)
        refine ⟨ys ++ [y], by simp [h1], fun i hi => ?_⟩
        rcases Nat.lt_or_ge i l with hil | hil
        · obtain ⟨y', c', g1, g2⟩ := h2 i hil
          exact ⟨y', c', by rw [List.getElem?_append_left (by omega)]; exact g1, g2⟩
        · obtain rfl : i = l := by omega
          exact ⟨y, c, by rw [List.getElem?_append_right (by omega)]; simp [h1], h3, h4, h5, h6⟩
    have hlen9 : len ≤ 9223372036854775807 := by
      have := maxLen_eq
      omega
    refine ⟨ys, ⟨some a, cap, by rw [hys], by omega, rfl, by omega, fun _ => ⟨a, rfl, fun j p hp => ?_⟩⟩, by omega, .inr ⟨_, _, rfl, by simp [hys], fun i y e hi he' => ?_⟩⟩
    · have hj : j < len := by
        have := (List.getElem?_eq_some_iff.1 hp).1
        omega
      obtain ⟨y, c, h1, h2, h3, _, h4⟩ := hy j hj
      rw [h1] at hp
      obtain rfl := Option.some.inj hp
      exact ⟨c, h2, h3, h4⟩
    · have hj : i < len := by
        have := (List.getElem?_eq_some_iff.1 hi).1
        omega
      obtain ⟨y', c, h1, h2, h3, h5, h4⟩ := hy i hj
      rw [h1] at hi
      obtain rfl := Option.some.inj hi
      rw [List.getElem?_map, List.getElem?_range hj] at he'
      obtain rfl := Option.some.inj he'
      exact h5
/-- The fields of a struct, from cell off on. -/
def Flds (P : Program) (fs : List Field) (off : Nat) {α : Type} (d : Kd α) (DL : α → List (DataW H) → Prop) : Prop :=
  ∀ (enc : TypeId × Value → H) (w : World) (base : Nat) (spare : Nat → Bool) (held : Bool) (n : Nat) (cs : List Value) (xs : List (DataW H × List MemPlace)),
    (∀ (i : Nat) (f : Field), fs[i]? = some f → DataW.trod enc P w base spare held n f.type ((cs.drop f.offset).take (P.cellsOf f.type)) = xs[i]?) → xs.length = fs.length → cs.length = off + d.sz →
    ∃ y, d.K w y (cs.drop off) ∧ DL y (xs.map (·.1))
theorem flds_one {P : Program} {f : Field} {off : Nat} {α : Type} {d : Kd α} {D : α → DataW H → Prop} (ho : f.offset = off) (hc : P.cellsOf f.type = d.sz) (h : Rdr P f.type d D) : Flds P [f] off d (D1 D) := by
  intro enc w base spare held n cs xs hx hl hcs
  match xs, hl with
  | [x], _ =>
    have h0 := hx 0 f rfl
    rw [ho, hc, List.take_of_length_le (by simp; omega)] at h0
    obtain ⟨y, hk, hd⟩ := h enc w base spare held n _ _ h0
    exact ⟨y, hk, _, rfl, hd⟩
theorem flds_cons {P : Program} {f : Field} {fs : List Field} {off off' : Nat} {α β : Type} {a : Kd α} {b : Kd β} {D : α → DataW H → Prop} {DL : β → List (DataW H) → Prop}
    (ho : f.offset = off) (hc : P.cellsOf f.type = a.sz) (h : Rdr P f.type a D) (ho' : off' = off + a.sz) (hr : Flds P fs off' b DL) : Flds P (f :: fs) off (Kd.pair a b) (DC D DL) := by
  intro enc w base spare held n cs xs hx hl hcs
  have hsz : (Kd.pair a b).sz = a.sz + b.sz := rfl
  match xs, hl with
  | x :: xs, hl =>
    have h0 := hx 0 f rfl
    rw [ho, hc] at h0
    obtain ⟨y, hk, hd⟩ := h enc w base spare held n _ _ h0
    obtain ⟨z, hk', hd'⟩ := hr enc w base spare held n cs xs (fun i g hg => hx (i + 1) g hg) (by simpa using hl) (by omega)
    refine ⟨(y, z), ⟨_, _, ?_, hk, hk'⟩, _, _, rfl, hd, hd'⟩
    rw [ho', ← List.drop_drop, List.take_append_drop]
theorem rdr_struct {P : Program} {t : TypeId} {fs : Array Field} {α : Type} {d : Kd α} {DL : α → List (DataW H) → Prop} (ht : P.underlying t = some (.struct fs)) (hc : P.cellsOf t = d.sz) (h : Flds P fs.toList 0 d DL) :
    Rdr P t d (DAgg DL) := by
  intro enc w base spare held fuel cs x hx
  obtain ⟨xs, n, _, rfl, hl, hlen, hg⟩ := DataW.trod_struct ht hx
  obtain ⟨y, hk, hd⟩ := h enc w base spare held n cs xs (fun i f hf => hg i f (by simpa using hf)) (by simpa using hlen) (by omega)
  exact ⟨y, by simpa using hk, _, rfl, hd⟩
theorem rdr_iso {P : Program} {t : TypeId} {α β : Type} {d : Kd α} {D : α → DataW H → Prop} (f : β → α) (g : α → β) (hfg : ∀ x, f (g x) = x) (h : Rdr P t d D) : Rdr P t (Kd.iso d f) (fun x => D (f x)) := by
  intro enc w base spare held fuel cs x hx
  obtain ⟨y, hk, hd⟩ := h enc w base spare held fuel cs x hx
  exact ⟨g y, by show d.K w (f (g y)) cs; rw [hfg]; exact hk, by show D (f (g y)) x.1; rw [hfg]; exact hd⟩
/-- A row's argument that is a slice. -/
theorem open_sl {P : Program} {t e : TypeId} {α : Type} {d : Kd α} {D : List α → DataW H → Prop} {enc : TypeId × Value → H} {w : World} {base : Nat} {spare : Nat → Bool} {held : Bool} {v : Value} {x : DataW H} {ps : List MemPlace} {r : Reach} {b0 : Nat}
    (hr : Rdr P t (Kd.slice e d) D) (ht : P.underlying t = some (.slice e)) (hv : Value.okWide P w r b0 t v) (h : DataW.Trod enc P w base spare held t v x ps) :
    ∃ A c l, v = .slice A (List.length l) c ∧ l.length ≤ c ∧ d.C w A l.length l ∧ D l x := by
  obtain ⟨fuel, hf⟩ := h
  obtain ⟨a, len, cap, rfl⟩ := okWide_slice ht hv
  obtain ⟨l, ⟨A, c, hcs, hlc, hC⟩, hd⟩ := hr _ _ _ _ _ _ _ _ hf
  simp [Value.cells] at hcs
  obtain ⟨rfl, rfl, rfl⟩ := hcs
  exact ⟨_, _, l, rfl, hlc, hC, hd⟩
/-- .. a struct by value. -/
theorem open_st {P : Program} {t : TypeId} {fs : Array Field} {α : Type} {d : Kd α} {D : α → DataW H → Prop} {enc : TypeId × Value → H} {w : World} {base : Nat} {spare : Nat → Bool} {held : Bool} {v : Value} {x : DataW H} {ps : List MemPlace} {r : Reach} {b0 : Nat}
    (hr : Rdr P t d D) (ht : P.underlying t = some (.struct fs)) (hv : Value.okWide P w r b0 t v) (h : DataW.Trod enc P w base spare held t v x ps) :
    ∃ cs y, v = .agg cs ∧ d.K w y cs.toList ∧ D y x := by
  obtain ⟨fuel, hf⟩ := h
  obtain ⟨cs, rfl, hsz⟩ := okWide_struct ht hv
  obtain ⟨y, hk, hd⟩ := hr _ _ _ _ _ _ _ _ hf
  exact ⟨cs, y, rfl, hk, hd⟩
end
end Go.Proofs.YtglhedahannjiaaGreatDoor.Read

/- The arguments of layer 7's laws, read as data: an image, a script, fates; what their weights allow. -/
namespace Go.Proofs.YtglhedahannjiaaGreatDoor.Dw
open Go.RowKit Go.ChangeShapes Go.WideShapes Go.Proofs.YtglhedahannjiaaGreatDoor.Read Go.Proofs.YtglhedahannjiaaGreatDoor.Mp Go.Proofs.YtglhedahannjiaaGreatDoor.Dm Go.Proofs.YtglhedahannjiaaGreatDoor.Da
open Go.Proofs.YtglhedahannjiaaGreatDoorW.PrintWords (Kd ReadsInt)
set_option linter.unusedVariables false
set_option linter.unusedSimpArgs false
set_option linter.unusedSectionVars false
section
variable {H : Type}
/-- A datum of a type keeps to its weights. -/
def Fits (t : TypeId) (d : DataW H) : Prop := ∀ n, n ∈ d.weights Tryz.prog t → n ≤ reachBytes
theorem fits_arg {ts : List TypeId} {ds : List (DataW H)} (h : (DataW.weightsEach Tryz.prog ts ds).all (· ≤ reachBytes) = true) {j : Nat} {t : TypeId} {d : DataW H} (ht : ts[j]? = some t) (hd : ds[j]? = some d) : Fits t d := fun n hn => by
  have := List.all_eq_true.1 h n (DataW.weights_mem_each ht hd n hn)
  simpa using this
theorem weights_all {e : TypeId} : ∀ {l : List (DataW H)} {d : DataW H}, d ∈ l → ∀ n, n ∈ d.weights Tryz.prog e → n ∈ DataW.weightsAll Tryz.prog e l
  | x :: l, d, hd, n, hn => by
    simp only [DataW.weightsAll, List.mem_append]
    rcases List.mem_cons.1 hd with rfl | h
    · exact .inl hn
    · exact .inr (weights_all h n hn)
theorem fits_slice {t e : TypeId} {es sp : List (DataW H)} (h : Fits t (.slice es sp)) (hu : Tryz.prog.underlying t = some (.slice e)) : es.length * Tryz.prog.bytesOf e ≤ reachBytes ∧ ∀ d, d ∈ es → Fits e d := by
  have hw : DataW.weights Tryz.prog t (.slice es sp) = (es.length + sp.length) * Tryz.prog.bytesOf e :: (DataW.weightsAll Tryz.prog e es ++ DataW.weightsAll Tryz.prog e sp) := by simp [DataW.weights, hu]
  constructor
  · have := h _ (by rw [hw]; exact List.mem_cons_self)
    exact Nat.le_trans (Nat.mul_le_mul_right _ (Nat.le_add_right _ _)) this
  · intro d hd n hn
    exact h n (by rw [hw]; exact List.mem_cons_of_mem _ (List.mem_append_left _ (weights_all hd n hn)))
theorem fits_struct {t : TypeId} {fs : Array Field} {ds : List (DataW H)} (h : Fits t (.agg ds)) (hu : Tryz.prog.underlying t = some (.struct fs)) : ∀ (j : Nat) u d, (fs.toList.map (·.type))[j]? = some u → ds[j]? = some d → Fits u d := by
  intro j u d hj hd n hn
  refine h n ?_
  have hw : DataW.weights Tryz.prog t (.agg ds) = DataW.weightsEach Tryz.prog (fs.toList.map (·.type)) ds := by simp [DataW.weights, hu]
  rw [hw]
  exact DataW.weights_mem_each hj hd n hn
/-- Whole numbers in a slice. -/
theorem ints_wf {k : IntKind} {l : List Int} {d : DataW H} (h : DSlice (DInt k) l d) : ∀ x, x ∈ l → (Lit.int k x).wf = true := by
  intro x hx
  obtain ⟨j, hj⟩ := List.getElem?_of_mem hx
  rcases h.2 with ⟨rfl, _⟩ | ⟨es, sp, rfl, hes, hD⟩
  · simp at hj
  · have hjl := (List.getElem?_eq_some_iff.1 hj).1
    exact (hD j x _ hj (List.getElem?_eq_getElem (by omega))).2
theorem u8_wf {l : List Int} {d : DataW H} (h : DSlice (DInt .u8) l d) : ∀ x, x ∈ l → 0 ≤ x ∧ x < 256 := fun x hx => by
  have := ints_wf h x hx
  simp [Lit.wf, IntKind.min, IntKind.max, IntKind.bits, IntKind.signed] at this
  exact ⟨by omega, by omega⟩
theorem i64_wf {x : Int} (h : (Lit.int .i64 x).wf = true) : -9223372036854775808 ≤ x ∧ x ≤ 9223372036854775807 := by
  simp [Lit.wf, IntKind.min, IntKind.max, IntKind.bits, IntKind.signed] at h
  exact ⟨by omega, by omega⟩
set_option maxRecDepth 100000 in
theorem slice_len {α : Type} {t e : TypeId} {D : α → DataW H → Prop} {l : List α} {d : DataW H} (h : DSlice D l d) (hf : Fits t d) (hu : Tryz.prog.underlying t = some (.slice e)) : l.length * Tryz.prog.bytesOf e ≤ reachBytes := by
  rcases h.2 with ⟨rfl, _⟩ | ⟨es, sp, rfl, hes, _⟩
  · simp
  · rw [← hes]; exact (fits_slice hf hu).1
set_option maxRecDepth 100000 in
theorem slice_elem {α : Type} {t e : TypeId} {D : α → DataW H → Prop} {l : List α} {d : DataW H} (h : DSlice D l d) (hf : Fits t d) (hu : Tryz.prog.underlying t = some (.slice e)) {x : α} (hx : x ∈ l) : ∃ dx, D x dx ∧ Fits e dx := by
  obtain ⟨j, hj⟩ := List.getElem?_of_mem hx
  rcases h.2 with ⟨rfl, _⟩ | ⟨es, sp, rfl, hes, hD⟩
  · simp at hj
  · have hjl := (List.getElem?_eq_some_iff.1 hj).1
    have he : es[j]? = some es[j] := List.getElem?_eq_getElem (by omega)
    exact ⟨_, hD j x _ hj he, (fits_slice hf hu).2 _ (List.getElem_mem _)⟩
/-! ### the readers -/
abbrev DFile (p : Plain) (d : DataW H) : Prop := DAgg (DC DStr (DC (DSlice (DInt .u8)) (D1 (DSlice (DInt .i64))))) (p.name, p.data, p.bad) d
abbrev DImg (l : List Plain) (d : DataW H) : Prop := DAgg (D1 (DSlice DFile)) l d
abbrev DFail (p : Int × Int) (d : DataW H) : Prop := DAgg (DC (DInt .i64) (D1 (DInt .i64))) p d
abbrev DFates (p : List Int × Int) (d : DataW H) : Prop := DAgg (DC (DSlice (DInt .i64)) (D1 (DInt .i64))) p d
abbrev DOp (o : OpS) (d : DataW H) : Prop := DAgg (DC (DInt .i64) (DC DStr (DC DStr (DC (DSlice (DInt .u8)) (DC (DInt .i64) (DC (DSlice DFail) (DC (DInt .i64) (D1 DFates)))))))) (o.kind, o.name, o.to_, o.data, o.n, o.fails, o.cut, o.fs, o.fn) d
theorem rdr_i64 : Rdr (H := H) Tryz.prog 3 (Kd.int .i64) (DInt .i64) := rdr_int Tryz.underlying3
theorem rdr_u8s : Rdr (H := H) Tryz.prog 22 (Kd.slice 5 (Kd.int .u8)) (DSlice (DInt .u8)) := rdr_slice Tryz.underlying22 (by kernel_rfl) (rdr_int Tryz.underlying5)
theorem rdr_i64s : Rdr (H := H) Tryz.prog 23 (Kd.slice 3 (Kd.int .i64)) (DSlice (DInt .i64)) := rdr_slice Tryz.underlying23 (by kernel_rfl) rdr_i64
theorem rdr_s : Rdr (H := H) Tryz.prog 9 Kd.string DStr := rdr_str Tryz.underlying9
theorem rdr_file : Rdr (H := H) Tryz.prog 41 fileK DFile :=
  rdr_iso (fun p : Plain => (p.name, p.data, p.bad)) (fun x => ⟨x.1, x.2.1, x.2.2⟩) (fun _ => rfl)
    (rdr_struct Tryz.underlying41 (by kernel_rfl) (flds_cons rfl (by kernel_rfl) rdr_s rfl (flds_cons rfl (by kernel_rfl) rdr_u8s rfl (flds_one rfl (by kernel_rfl) rdr_i64s))))
theorem rdr_img : Rdr (H := H) Tryz.prog 36 (Kd.slice 41 fileK) DImg :=
  rdr_struct Tryz.underlying36 (by kernel_rfl) (flds_one rfl (by kernel_rfl) (rdr_slice Tryz.underlying34 (by kernel_rfl) rdr_file))
theorem rdr_fail : Rdr (H := H) Tryz.prog 75 failK DFail := rdr_struct Tryz.underlying75 (by kernel_rfl) (flds_cons rfl (by kernel_rfl) rdr_i64 rfl (flds_one rfl (by kernel_rfl) rdr_i64))
theorem rdr_fates : Rdr (H := H) Tryz.prog 39 fatesK DFates := rdr_struct Tryz.underlying39 (by kernel_rfl) (flds_cons rfl (by kernel_rfl) rdr_i64s rfl (flds_one rfl (by kernel_rfl) rdr_i64))
theorem rdr_op : Rdr (H := H) Tryz.prog 55 opK DOp :=
  rdr_iso (fun o : OpS => (o.kind, o.name, o.to_, o.data, o.n, o.fails, o.cut, o.fs, o.fn)) (fun x => ⟨x.1, x.2.1, x.2.2.1, x.2.2.2.1, x.2.2.2.2.1, x.2.2.2.2.2.1, x.2.2.2.2.2.2.1, x.2.2.2.2.2.2.2.1, x.2.2.2.2.2.2.2.2⟩) (fun _ => rfl)
    (rdr_struct Tryz.underlying55 (by kernel_rfl) (flds_cons rfl (by kernel_rfl) rdr_i64 rfl (flds_cons rfl (by kernel_rfl) rdr_s rfl (flds_cons rfl (by kernel_rfl) rdr_s rfl (flds_cons rfl (by kernel_rfl) rdr_u8s rfl (flds_cons rfl (by kernel_rfl) rdr_i64 rfl
      (flds_cons rfl (by kernel_rfl) (rdr_slice Tryz.underlying53 (by kernel_rfl) rdr_fail) rfl (flds_cons rfl (by kernel_rfl) rdr_i64 rfl (flds_one rfl (by kernel_rfl) rdr_fates)))))))))
theorem bytes_u8 : Tryz.prog.bytesOf 5 = 1 := by kernel_rfl
theorem bytes_int : Tryz.prog.bytesOf 3 = 8 := by kernel_rfl
theorem bytes_fail : Tryz.prog.bytesOf 75 = 16 := by kernel_rfl
theorem bytes_file : Tryz.prog.bytesOf 41 = 64 := by kernel_rfl
theorem reach_eq : reachBytes = 140737488351232 := by decide
set_option maxRecDepth 100000 in
/-- An image's file, as its datum has it. -/
theorem file_ok {p : Plain} {d : DataW H} (h : DFile p d) (hf : Fits 41 d) : (∀ x, x ∈ p.data → 0 ≤ x ∧ x < 256) ∧ p.data.length ≤ 140737488355328 ∧ p.name.size ≤ 9223372036854775807 := by
  obtain ⟨ds, rfl, d0, r0, rfl, h0, d1, r1, rfl, h1, d2, rfl, h2⟩ := h
  have f1 : Fits 22 d1 := fits_struct hf Tryz.underlying41 1 22 d1 rfl rfl
  have l1 := slice_len h1 f1 Tryz.underlying22
  rw [bytes_u8, reach_eq] at l1
  exact ⟨u8_wf h1, by simp only [] at l1; omega, by have := h0.2; rw [maxLen_eq] at this; exact this⟩
set_option maxRecDepth 100000 in
theorem fates_ok {fs : List Int} {fn : Int} {d : DataW H} (h : DFates (fs, fn) d) (hf : Fits 39 d) : fs.length ≤ 4611686018427387904 ∧ -9223372036854775808 ≤ fn ∧ fn ≤ 9223372036854775807 := by
  obtain ⟨ds, rfl, d0, r0, rfl, h0, d1, rfl, h1⟩ := h
  have f0 : Fits 23 d0 := fits_struct hf Tryz.underlying39 0 23 d0 rfl rfl
  have l0 := slice_len h0 f0 Tryz.underlying23
  rw [bytes_int, reach_eq] at l0
  exact ⟨by simp only [] at l0; omega, i64_wf h1.2⟩
set_option maxRecDepth 100000 in
theorem op_ok {o : OpS} {d : DataW H} (h : DOp o d) (hf : Fits 55 d) : OpOk o ∧ o.data.length ≤ 140737488355328 := by
  obtain ⟨ds, rfl, d0, r0, rfl, h0, d1, r1, rfl, h1, d2, r2, rfl, h2, d3, r3, rfl, h3, d4, r4, rfl, h4, d5, r5, rfl, h5, d6, r6, rfl, h6, d7, rfl, h7⟩ := h
  have f3 : Fits 22 d3 := fits_struct hf Tryz.underlying55 3 22 d3 rfl rfl
  have f5 : Fits 53 d5 := fits_struct hf Tryz.underlying55 5 53 d5 rfl rfl
  have f7 : Fits 39 d7 := fits_struct hf Tryz.underlying55 7 39 d7 rfl rfl
  have l3 := slice_len h3 f3 Tryz.underlying22
  have l5 := slice_len h5 f5 Tryz.underlying53
  rw [bytes_u8, reach_eq] at l3
  rw [bytes_fail, reach_eq] at l5
  have e7 := fates_ok h7 f7
  have mx := maxLen_eq
  exact ⟨⟨by have := h1.2; rw [mx] at this; exact this, by have := h2.2; rw [mx] at this; exact this, u8_wf h3, i64_wf h4.2, by simp only [] at l5; omega, e7.1⟩, by simp only [] at l3; omega⟩
end
section
variable {H : Type} {enc : TypeId × Value → H} {w : World} {base : Nat} {spare : Nat → Bool} {held : Bool} {v : Value} {x : DataW H} {ps : List MemPlace} {r : Reach} {b0 : Nat}
set_option maxRecDepth 100000 in
theorem ops_arg (hv : Value.okWide Tryz.prog w r b0 43 v) (h : DataW.Trod enc Tryz.prog w base spare held 43 v x ps) (hf : Fits 43 x) :
    ∃ A c os, v = .slice A (List.length os) c ∧ os.length ≤ c ∧ opK.C w A os.length os ∧ (∀ o, o ∈ os → OpOk o ∧ o.data.length ≤ 140737488355328) := by
  obtain ⟨A, c, os, rfl, hlc, hC, hd⟩ := open_sl (rdr_slice Tryz.underlying43 (by kernel_rfl) rdr_op) Tryz.underlying43 hv h
  refine ⟨A, c, os, rfl, hlc, hC, fun o ho => ?_⟩
  obtain ⟨dx, h1, h2⟩ := slice_elem hd hf Tryz.underlying43 ho
  exact op_ok h1 h2
end
end Go.Proofs.YtglhedahannjiaaGreatDoor.Dw

/- The fifteen errors as a row's list lays them, and a world for the witnesses (printed by wip/tools/gen_row.py). -/
namespace Go.Proofs.YtglhedahannjiaaGreatDoor.Row7
open Go.ChangeShapes Go.WideShapes Go.ChangeAt Go.RowKit Go.Proofs.YtglhedahannjiaaGreatDoor.Read Go.Proofs.YtglhedahannjiaaGreatDoor.Dm Go.Proofs.YtglhedahannjiaaGreatDoor.Da Go.Proofs.YtglhedahannjiaaGreatDoor.Dw Go.Proofs.YtglhedahannjiaaGreatDoorW.PrintWords
set_option linter.unusedVariables false
set_option linter.unusedSimpArgs false
theorem own : ownKnob Tryz.prog.godebug = none := by kernel_rfl
theorem laidOut : laidOutB Tryz.prog = true := by kernel_rfl
theorem star : "*" ++ "errors.errorString" = "*errors.errorString" := by decide
theorem rowE (u : TypeId) (h : Tryz.prog.typeName? 3 u = some "*errors.errorString") : u = 228 :=
  typeName_ptr_named (nm := "errors.errorString") (by rw [star]; kernel_rfl) (by kernel_rfl) (by decide) u (by rw [star]; exact h)
theorem cellsE : Tryz.prog.cellsOf 252 = 1 := by kernel_rfl
theorem cellsS : Tryz.prog.cellsOf 9 = 1 := by kernel_rfl
set_option maxRecDepth 100000 in
theorem one {W : World} {n : String} {g0 : Nat} {text : List UInt8} {rest : List (String × DataW Unit)} {ps : List MemPlace} (hg0 : Tryz.prog.globalNamed n = some g0) (ht0 : (Tryz.prog.globals[g0]?).map (·.type) = some 28)
    (h : DataW.LaidVars Tryz.prog W ((n, .iface "*errors.errorString" (.ptr (.agg [.lit (.string text)]))) :: rest) ps)
    (hrows : ∀ b off, MemPlace.cell b off ∈ ps → (∃ c t, W.heap[b]? = some (.cells c t (0, 0))) ∧ ∀ u v, W.cell? ⟨b, off, none⟩ = some (.iface u v) → Value.okWide Tryz.prog W .any 0 u v) :
    ∃ a q, W.cell? ⟨g0, 0, none⟩ = some (.iface 228 (.pointer (some a))) ∧ (∃ c t, W.heap[a.block]? = some (.cells c t (0, 0))) ∧ DataW.LaidVars Tryz.prog W rest q ∧ ps = .cell g0 0 :: .cell a.block a.off :: q := by
  obtain ⟨g, t, cs, fuel, p, q, hg, ht, hv, hd, hq, e⟩ := h
  obtain rfl := Option.some.inj (hg0.symm.trans hg)
  obtain rfl := Option.some.inj (ht0.symm.trans ht)
  subst e
  obtain ⟨l⟩ := cs
  have ok : ∀ u v, l = [.iface u v] → Value.okWide Tryz.prog W .any 0 u v := fun u v e => by
    subst e
    exact (hrows g0 0 (by simp [MemPlace.row])).2 u v (by simpa using World.var?_cell hg0 hv 0)
  obtain ⟨a, s, rfl, hc, hs, hz, rfl⟩ := errorString_of_trod Tryz.underlying28 rowE Tryz.underlying228 Tryz.underlying252 rfl rfl Tryz.underlying9 cellsE cellsS hd ok
  exact ⟨a, q, by simpa using World.var?_cell hg0 hv 0, (hrows a.block a.off (by simp [MemPlace.row])).1, hq, by simp [MemPlace.row]⟩
theorem inj_of_nodup {α β : Type} {f : α → β} : ∀ {l : List α}, (l.map f).Nodup → ∀ x y, x ∈ l → y ∈ l → f x = f y → x = y
  | [], _, _, _, hx, _, _ => by cases hx
  | a :: l, h, x, y, hx, hy, e => by
    rw [List.map_cons, List.nodup_cons] at h
    rcases List.mem_cons.1 hx with hxa | hx2
    · rcases List.mem_cons.1 hy with hya | hy2
      · rw [hxa, hya]
      · exact absurd (List.mem_map.2 ⟨y, hy2, by rw [← e, hxa]⟩) h.1
    · rcases List.mem_cons.1 hy with hya | hy2
      · exact absurd (List.mem_map.2 ⟨x, hx2, by rw [e, hya]⟩) h.1
      · exact inj_of_nodup h.2 x y hx2 hy2 e
theorem upto15 {c : Nat} (h1 : 1 ≤ c) (h2 : c ≤ 15) : c = 1 ∨ c = 2 ∨ c = 3 ∨ c = 4 ∨ c = 5 ∨ c = 6 ∨ c = 7 ∨ c = 8 ∨ c = 9 ∨ c = 10 ∨ c = 11 ∨ c = 12 ∨ c = 13 ∨ c = 14 ∨ c = 15 := by omega
set_option maxRecDepth 100000 in
theorem errs_of_laid {W : World} (h : laidMet Tryz.prog Rows.diskKeptUptoRow.laid W) : ∃ ea, Errs15 W.heap.size W ea := by
  obtain ⟨ps, hl0, hnd, hrows⟩ := h
  obtain ⟨a1, q1, c1, b1, hl1, rfl⟩ := one (n := "turnstile/api.ErrArg") (g0 := 1) (by kernel_rfl) (by kernel_rfl) hl0 hrows
  obtain ⟨a2, q2, c2, b2, hl2, rfl⟩ := one (n := "turnstile/api.ErrShort") (g0 := 7) (by kernel_rfl) (by kernel_rfl) hl1 (fun b o hp => hrows b o (by simp [hp]))
  obtain ⟨a3, q3, c3, b3, hl3, rfl⟩ := one (n := "turnstile/api.ErrForm") (g0 := 8) (by kernel_rfl) (by kernel_rfl) hl2 (fun b o hp => hrows b o (by simp [hp]))
  obtain ⟨a4, q4, c4, b4, hl4, rfl⟩ := one (n := "turnstile/api.ErrLong") (g0 := 9) (by kernel_rfl) (by kernel_rfl) hl3 (fun b o hp => hrows b o (by simp [hp]))
  obtain ⟨a5, q5, c5, b5, hl5, rfl⟩ := one (n := "turnstile/api.ErrSum") (g0 := 10) (by kernel_rfl) (by kernel_rfl) hl4 (fun b o hp => hrows b o (by simp [hp]))
  obtain ⟨a6, q6, c6, b6, hl6, rfl⟩ := one (n := "turnstile/api.ErrIo") (g0 := 6) (by kernel_rfl) (by kernel_rfl) hl5 (fun b o hp => hrows b o (by simp [hp]))
  obtain ⟨a7, q7, c7, b7, hl7, rfl⟩ := one (n := "turnstile/api.ErrDown") (g0 := 4) (by kernel_rfl) (by kernel_rfl) hl6 (fun b o hp => hrows b o (by simp [hp]))
  obtain ⟨a8, q8, c8, b8, hl8, rfl⟩ := one (n := "turnstile/api.ErrGone") (g0 := 5) (by kernel_rfl) (by kernel_rfl) hl7 (fun b o hp => hrows b o (by simp [hp]))
  obtain ⟨a9, q9, c9, b9, hl9, rfl⟩ := one (n := "turnstile/api.ErrThere") (g0 := 0) (by kernel_rfl) (by kernel_rfl) hl8 (fun b o hp => hrows b o (by simp [hp]))
  obtain ⟨a10, q10, c10, b10, hl10, rfl⟩ := one (n := "turnstile/api.ErrImage") (g0 := 2) (by kernel_rfl) (by kernel_rfl) hl9 (fun b o hp => hrows b o (by simp [hp]))
  obtain ⟨a11, q11, c11, b11, hl11, rfl⟩ := one (n := "turnstile/api.ErrGap") (g0 := 11) (by kernel_rfl) (by kernel_rfl) hl10 (fun b o hp => hrows b o (by simp [hp]))
  obtain ⟨a12, q12, c12, b12, hl12, rfl⟩ := one (n := "turnstile/api.ErrLog") (g0 := 12) (by kernel_rfl) (by kernel_rfl) hl11 (fun b o hp => hrows b o (by simp [hp]))
  obtain ⟨a13, q13, c13, b13, hl13, rfl⟩ := one (n := "turnstile/api.ErrSick") (g0 := 13) (by kernel_rfl) (by kernel_rfl) hl12 (fun b o hp => hrows b o (by simp [hp]))
  obtain ⟨a14, q14, c14, b14, hl14, rfl⟩ := one (n := "turnstile/api.ErrConfig") (g0 := 14) (by kernel_rfl) (by kernel_rfl) hl13 (fun b o hp => hrows b o (by simp [hp]))
  obtain ⟨a15, q15, c15, b15, hl15, rfl⟩ := one (n := "turnstile/api.ErrNil") (g0 := 3) (by kernel_rfl) (by kernel_rfl) hl14 (fun b o hp => hrows b o (by simp [hp]))
  have hq : q15 = [] := hl15
  subst hq
  let ea : Nat → Addr := fun c => if c = 1 then a1 else if c = 2 then a2 else if c = 3 then a3 else if c = 4 then a4 else if c = 5 then a5 else if c = 6 then a6 else if c = 7 then a7 else if c = 8 then a8 else if c = 9 then a9 else if c = 10 then a10 else if c = 11 then a11 else if c = 12 then a12 else if c = 13 then a13 else if c = 14 then a14 else a15
  have lt : ∀ {g : Nat} {v : Value}, W.cell? ⟨g, 0, none⟩ = some v → g < W.heap.size := fun h => World.block_lt_of_cell? W _ h
  have hsub : (([1, 2, 3, 4, 5, 6, 7, 8, 9, 10, 11, 12, 13, 14, 15] : List Nat).map fun c => MemPlace.cell (ea c).block (ea c).off).Nodup := by
    refine hnd.sublist ?_
    exact .cons _ (.cons_cons _ (.cons _ (.cons_cons _ (.cons _ (.cons_cons _ (.cons _ (.cons_cons _ (.cons _ (.cons_cons _ (.cons _ (.cons_cons _ (.cons _ (.cons_cons _ (.cons _ (.cons_cons _ (.cons _ (.cons_cons _ (.cons _ (.cons_cons _ (.cons _ (.cons_cons _ (.cons _ (.cons_cons _ (.cons _ (.cons_cons _ (.cons _ (.cons_cons _ (.cons _ (.cons_cons _ .slnil)))))))))))))))))))))))))))))
  refine ⟨ea, ?_, ?_, ?_, ?_, ?_⟩
  · intro c h1 h2
    rcases upto15 h1 h2 with rfl | rfl | rfl | rfl | rfl | rfl | rfl | rfl | rfl | rfl | rfl | rfl | rfl | rfl | rfl
    · exact c1
    · exact c2
    · exact c3
    · exact c4
    · exact c5
    · exact c6
    · exact c7
    · exact c8
    · exact c9
    · exact c10
    · exact c11
    · exact c12
    · exact c13
    · exact c14
    · exact c15
  · intro c h1 h2
    rcases upto15 h1 h2 with rfl | rfl | rfl | rfl | rfl | rfl | rfl | rfl | rfl | rfl | rfl | rfl | rfl | rfl | rfl
    · exact b1
    · exact b2
    · exact b3
    · exact b4
    · exact b5
    · exact b6
    · exact b7
    · exact b8
    · exact b9
    · exact b10
    · exact b11
    · exact b12
    · exact b13
    · exact b14
    · exact b15
  · intro c h1 h2
    have hb : ∀ {a : Addr}, (∃ c t, W.heap[a.block]? = some (.cells c t (0, 0))) → a.block < W.heap.size := fun ⟨_, _, h⟩ => (Array.getElem?_eq_some_iff.1 h).1
    rcases upto15 h1 h2 with rfl | rfl | rfl | rfl | rfl | rfl | rfl | rfl | rfl | rfl | rfl | rfl | rfl | rfl | rfl
    · exact hb b1
    · exact hb b2
    · exact hb b3
    · exact hb b4
    · exact hb b5
    · exact hb b6
    · exact hb b7
    · exact hb b8
    · exact hb b9
    · exact hb b10
    · exact hb b11
    · exact hb b12
    · exact hb b13
    · exact hb b14
    · exact hb b15
  · intro c h1 h2
    rcases upto15 h1 h2 with rfl | rfl | rfl | rfl | rfl | rfl | rfl | rfl | rfl | rfl | rfl | rfl | rfl | rfl | rfl
    · exact lt c1
    · exact lt c2
    · exact lt c3
    · exact lt c4
    · exact lt c5
    · exact lt c6
    · exact lt c7
    · exact lt c8
    · exact lt c9
    · exact lt c10
    · exact lt c11
    · exact lt c12
    · exact lt c13
    · exact lt c14
    · exact lt c15
  · intro a b ha1 ha2 hb1 hb2 e
    have hm : ∀ {c : Nat}, 1 ≤ c → c ≤ 15 → c ∈ ([1, 2, 3, 4, 5, 6, 7, 8, 9, 10, 11, 12, 13, 14, 15] : List Nat) := fun {c} h1 h2 => by
      rcases upto15 h1 h2 with rfl | rfl | rfl | rfl | rfl | rfl | rfl | rfl | rfl | rfl | rfl | rfl | rfl | rfl | rfl <;> decide
    exact inj_of_nodup hsub a b (hm ha1 ha2) (hm hb1 hb2) (by show MemPlace.cell (ea a).block (ea a).off = MemPlace.cell (ea b).block (ea b).off; rw [e])
/-- A WORLD FOR THE WITNESS: the settled one, with the fifteen errors. -/
noncomputable def low : Nat := (World.holding Tryz.prog default ⟨#[], #[], []⟩).heap.size
def laidBlocks : Array Obj := #[.cells #[.string ⟨#[97, 110, 32, 97, 114, 103, 117, 109, 101, 110, 116, 32, 111, 117, 116, 115, 105, 100, 101, 32, 119, 104, 97, 116, 32, 116, 104, 101, 32, 99, 97, 108, 108, 32, 116, 97, 107, 101, 115]⟩] 252,
  .cells #[.string ⟨#[116, 104, 101, 32, 98, 121, 116, 101, 115, 32, 101, 110, 100, 32, 116, 111, 111, 32, 101, 97, 114, 108, 121]⟩] 252,
  .cells #[.string ⟨#[116, 104, 101, 32, 98, 121, 116, 101, 115, 32, 104, 97, 118, 101, 32, 97, 110, 111, 116, 104, 101, 114, 32, 102, 111, 114, 109]⟩] 252,
  .cells #[.string ⟨#[109, 111, 114, 101, 32, 116, 104, 97, 110, 32, 116, 104, 101, 32, 108, 105, 109, 105, 116]⟩] 252,
  .cells #[.string ⟨#[116, 104, 101, 32, 115, 117, 109, 32, 105, 115, 32, 97, 110, 111, 116, 104, 101, 114, 32, 111, 110, 101]⟩] 252,
  .cells #[.string ⟨#[116, 104, 101, 32, 100, 105, 115, 107, 32, 102, 97, 105, 108, 101, 100]⟩] 252,
  .cells #[.string ⟨#[116, 104, 101, 32, 112, 111, 119, 101, 114, 32, 105, 115, 32, 111, 102, 102]⟩] 252,
  .cells #[.string ⟨#[110, 111, 32, 115, 117, 99, 104, 32, 102, 105, 108, 101]⟩] 252,
  .cells #[.string ⟨#[116, 104, 101, 114, 101, 32, 105, 115, 32, 115, 117, 99, 104, 32, 97, 32, 102, 105, 108, 101]⟩] 252,
  .cells #[.string ⟨#[110, 111, 32, 105, 109, 97, 103, 101, 32, 111, 102, 32, 97, 32, 100, 105, 115, 107]⟩] 252,
  .cells #[.string ⟨#[114, 101, 99, 111, 114, 100, 115, 32, 97, 114, 101, 32, 109, 105, 115, 115, 105, 110, 103]⟩] 252,
  .cells #[.string ⟨#[97, 32, 114, 101, 99, 111, 114, 100, 32, 116, 104, 97, 116, 32, 105, 115, 32, 110, 111, 110, 101]⟩] 252,
  .cells #[.string ⟨#[97, 110, 32, 101, 97, 114, 108, 105, 101, 114, 32, 119, 114, 105, 116, 101, 32, 102, 97, 105, 108, 101, 100]⟩] 252,
  .cells #[.string ⟨#[110, 111, 32, 99, 111, 110, 102, 105, 103, 117, 114, 97, 116, 105, 111, 110]⟩] 252,
  .cells #[.string ⟨#[110, 111, 32, 111, 98, 106, 101, 99, 116]⟩] 252]
def lay (g k : Nat) (h : Array Obj) (low : Nat) : Array Obj := h.modify g fun
  | .cells _ t frozen => .cells #[.iface 228 (.pointer (some ⟨low + k, 0, none⟩))] t frozen
  | o => o
noncomputable def laidWorld (os : Os) : World :=
  let w0 := World.holding Tryz.prog os ⟨laidBlocks, #[], []⟩
  { w0 with heap := lay 3 14 (lay 14 13 (lay 13 12 (lay 12 11 (lay 11 10 (lay 2 9 (lay 0 8 (lay 5 7 (lay 4 6 (lay 6 5 (lay 10 4 (lay 9 3 (lay 8 2 (lay 7 1 (lay 1 0 w0.heap low) low) low) low) low) low) low) low) low) low) low) low) low) low) low }
end Go.Proofs.YtglhedahannjiaaGreatDoor.Row7

/- The arguments of DiskKeeps, read as data; what their bulk allows. -/
namespace Go.Proofs.YtglhedahannjiaaGreatDoor.Dw
open Go.RowKit Go.ChangeShapes Go.WideShapes Go.Proofs.YtglhedahannjiaaGreatDoor.Read Go.Proofs.YtglhedahannjiaaGreatDoor.Mp Go.Proofs.YtglhedahannjiaaGreatDoor.Dm Go.Proofs.YtglhedahannjiaaGreatDoor.Da
open Go.Proofs.YtglhedahannjiaaGreatDoorW.PrintWords (Kd ReadsInt)
set_option linter.unusedVariables false
set_option linter.unusedSimpArgs false
section
variable {H : Type}
theorem bulk_pos (d : DataW H) : 1 ≤ Rows.uptoBulk d := by
  cases d with
  | lit l => cases l <;> simp [Rows.uptoBulk]
  | _ => simp [Rows.uptoBulk]
theorem bulk_mem {d : DataW H} : ∀ {l : List (DataW H)}, d ∈ l → Rows.uptoBulk d ≤ Rows.uptoBulkAll l
  | x :: r, h => by
    simp only [Rows.uptoBulkAll]
    rcases List.mem_cons.1 h with rfl | h
    · exact Nat.le_add_right _ _
    · exact Nat.le_trans (bulk_mem h) (Nat.le_add_left _ _)
theorem bulk_len : ∀ (l : List (DataW H)), l.length ≤ Rows.uptoBulkAll l
  | [] => Nat.zero_le _
  | x :: r => by
    have h1 := bulk_pos x
    have h2 := bulk_len r
    simp only [Rows.uptoBulkAll, List.length_cons]
    omega
theorem bulk_slice_len {α : Type} {D : α → DataW H → Prop} {l : List α} {d : DataW H} (h : DSlice D l d) : l.length ≤ Rows.uptoBulk d := by
  rcases h.2 with ⟨rfl, _⟩ | ⟨es, sp, rfl, hes, _⟩
  · exact Nat.zero_le _
  · have := bulk_len es
    simp only [Rows.uptoBulk]
    omega
theorem bulk_slice_elem {α : Type} {D : α → DataW H → Prop} {l : List α} {d : DataW H} (h : DSlice D l d) {x : α} (hx : x ∈ l) : ∃ dx, D x dx ∧ Rows.uptoBulk dx ≤ Rows.uptoBulk d := by
  obtain ⟨j, hj⟩ := List.getElem?_of_mem hx
  rcases h.2 with ⟨rfl, _⟩ | ⟨es, sp, rfl, hes, hD⟩
  · simp at hj
  · have hjl := (List.getElem?_eq_some_iff.1 hj).1
    have he : es[j]? = some es[j] := List.getElem?_eq_getElem (by omega)
    refine ⟨_, hD j x _ hj he, ?_⟩
    have := bulk_mem (List.getElem_mem (l := es) (n := j) (by omega))
    simp only [Rows.uptoBulk]
    omega
theorem bulk_file {p : Plain} {d : DataW H} (h : DFile p d) : p.bad.length ≤ Rows.uptoBulk d := by
  obtain ⟨ds, rfl, d0, r0, rfl, h0, d1, r1, rfl, h1, d2, rfl, h2⟩ := h
  have := bulk_slice_len h2
  simp only [Rows.uptoBulk, Rows.uptoBulkAll]
  simp only [] at this
  omega
end
section
variable {H : Type} {enc : TypeId × Value → H} {w : World} {base : Nat} {spare : Nat → Bool} {held : Bool} {v : Value} {x : DataW H} {ps : List MemPlace} {r : Reach} {b0 : Nat}
set_option maxRecDepth 100000 in
theorem img_arg2 (hv : Value.okWide Tryz.prog w r b0 36 v) (h : DataW.Trod enc Tryz.prog w base spare held 36 v x ps) (hf : Fits 36 x) (hb : Rows.uptoBulk x ≤ 1048576) :
    ∃ l, ImgRd w v l ∧ l.length ≤ 4398046511104 ∧ (∀ p, p ∈ l → (∀ x, x ∈ p.data → 0 ≤ x ∧ x < 256) ∧ p.data.length ≤ 140737488355328 ∧ p.name.size ≤ 9223372036854775807) ∧ ∀ p, p ∈ l → p.bad.length ≤ 1048576 := by
  obtain ⟨cs, l, rfl, ⟨A, c, e, hlc, hC⟩, ds, rfl, d, rfl, hd⟩ := open_st rdr_img Tryz.underlying36 hv h
  have e2 : cs = #[.slice A l.length c] := Array.toList_inj.1 e
  subst e2
  have fd : Fits 34 d := fits_struct hf Tryz.underlying36 0 34 d rfl rfl
  have l1 := slice_len hd fd Tryz.underlying34
  rw [bytes_file, reach_eq] at l1
  refine ⟨l, ⟨A, c, rfl, hlc, hC⟩, by omega, fun p hp => ?_, fun p hp => ?_⟩
  · obtain ⟨dx, h1, h2⟩ := slice_elem hd fd Tryz.underlying34 hp
    exact file_ok h1 h2
  · obtain ⟨dx, h1, h2⟩ := bulk_slice_elem hd hp
    have h3 := bulk_file h1
    simp only [Rows.uptoBulk, Rows.uptoBulkAll] at hb
    omega
set_option maxRecDepth 100000 in
theorem bytes_arg (hv : Value.okWide Tryz.prog w r b0 22 v) (h : DataW.Trod enc Tryz.prog w base spare held 22 v x ps) : ∃ A c xs, v = .slice A (List.length xs) c ∧ xs.length ≤ c ∧ ReadsInt w .u8 A xs.length xs ∧ ∀ x, x ∈ xs → 0 ≤ x ∧ x < 256 := by
  obtain ⟨A, c, xs, rfl, hlc, hC, hd⟩ := open_sl rdr_u8s Tryz.underlying22 hv h
  exact ⟨A, c, xs, rfl, hlc, C_reads hC, u8_wf hd⟩
end
end Go.Proofs.YtglhedahannjiaaGreatDoor.Dw
