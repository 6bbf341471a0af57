/- A part of the proof of diskSectors_holds: Ex, Read. No condition. -/
import Derived.Deep.Slices
import Derived.Deep.Fields
import Derived.ChangeSame
import Derived.SizedLaws
import Derived.Carry
import Derived.Test.YtglhedahannjiaaGreatDoorC19

/- Walks: DiskSectors, whole. -/
namespace Go.Proofs.YtglhedahannjiaaGreatDoor.Dw
open Go.RowKit Go.ChangeMaps Go.Proofs.YtglhedahannjiaaGreatDoor.Mp Go.Proofs.YtglhedahannjiaaGreatDoor.Dm Go.Proofs.YtglhedahannjiaaGreatDoor.Da
open Go.Proofs.YtglhedahannjiaaGreatDoorW.PrintWords (Kd ReadsInt string_of_reads)
set_option linter.unusedVariables false
set_option linter.unusedSimpArgs false
set_option linter.unusedSectionVars false
set_option maxHeartbeats 1000000 in
set_option maxRecDepth 100000 in
theorem law_sectors_big {w : World} {eb : Nat → Addr} {L : List Err} (he : ErrsAt w.heap.size w eb L) (n1 n2 : Nat) (v3 : Value) {p1 p2 : Option Addr} {c1 c2 : Nat}
    (hlF : n1 ≤ 9223372036854775807) (hlS : n2 ≤ 9223372036854775807) (hb : 1048576 < n1 ∨ 1048576 < n2) :
    Calls Tryz.prog 3 #[.slice p1 n1 c1, .slice p2 n2 c2, v3] w fun e w' => e = .returned (.bool true) ∧ Frm (fun _ => False) w w' := by
  have KEYL := Lib.hid (lives_calls he)
  clear he
  by_cases h1 : 1048576 < n1
  · have h1I : (1048576 : Int) < (n1 : Int) := by omega
    clear hb
    go_enter Tryz.func3, Tryz.ntmps3
    go_wp2_with (first
      | (go_at_call 10; (with_reducible refine KEYL.out.mono ?_); rintro e w1 ⟨rfl, f1⟩))
    go_ret
    exact ⟨rfl, f1⟩
  · have h2 : 1048576 < n2 := by omega
    have h1I : ¬ (1048576 : Int) < (n1 : Int) := by omega
    have h2I : (1048576 : Int) < (n2 : Int) := by omega
    clear hb
    go_enter Tryz.func3, Tryz.ntmps3
    go_wp2_with (first
      | (go_at_call 10; (with_reducible refine KEYL.out.mono ?_); rintro e w1 ⟨rfl, f1⟩))
    go_ret
    exact ⟨rfl, f1⟩
theorem law_sectors_all {w : World} {eb : Nat → Addr} {L : List Err} (he : ErrsAt w.heap.size w eb L) (F S fs : List Int) {p1 p2 p3 : Option Addr} {c1 c2 c3 : Nat}
    (h1 : ReadsInt w .u8 p1 F.length F) (h2 : ReadsInt w .u8 p2 S.length S) (h3 : ReadsInt w .i64 p3 fs.length fs) (hc1 : F.length ≤ c1) (hc2 : S.length ≤ c2)
    (hF : ∀ x, x ∈ F → 0 ≤ x ∧ x < 256) (hS : ∀ x, x ∈ S → 0 ≤ x ∧ x < 256) (hlF : F.length ≤ 9223372036854775807) (hlS : S.length ≤ 9223372036854775807) (hlf : fs.length ≤ 4611686018427387904) :
    Calls Tryz.prog 3 #[.slice p1 F.length c1, .slice p2 S.length c2, .slice p3 fs.length c3] w fun e w' => e = .returned (.bool true) ∧ Frm (fun _ => False) w w' := by
  by_cases hb : 1048576 < F.length ∨ 1048576 < S.length
  · exact law_sectors_big he F.length S.length _ hlF hlS hb
  · have hsm : F.length ≤ 1048576 ∧ S.length ≤ 1048576 := by omega
    rcases Nat.eq_zero_or_pos S.length with h0 | h0
    · exact law_sectors_none he F S fs h1 h2 h3 hc1 hc2 hF hS hlF hlS hlf hsm h0
    · exact law_sectors_some he F S fs h1 h2 h3 hc1 hc2 hF hS hlF hlS hlf hsm h0
end Go.Proofs.YtglhedahannjiaaGreatDoor.Dw

/- How an argument that can be read as data lies in memory, kind by kind: out of the reader's answer, the printed words' own facts (Kd) and the datum. -/
namespace Go.Proofs.YtglhedahannjiaaGreatDoor.Read
open Go.RowKit Go.ChangeShapes Go.WideShapes Go.Deep Go.Proofs.YtglhedahannjiaaGreatDoorW.PrintWords
set_option linter.unusedVariables false
set_option linter.unusedSimpArgs false
section
variable {H : Type}

/-- What type t's cells read as: a value by the kind d, its datum by D. -/
def Rdr (P : Program) (t : TypeId) {α : Type} (d : Kd α) (D : α → DataW H → Prop) : Prop :=
  ∀ (enc : TypeId × Value → H) (w : World) (base : Nat) (spare : Nat → Bool) (held : Bool) (fuel : Nat) (cs : List Value) (x : DataW H × List MemPlace),
    DataW.trod enc P w base spare held fuel t cs = some x → ∃ y, d.K w y cs ∧ D y x.1

def DInt (k : IntKind) (n : Int) (d : DataW H) : Prop := d = .lit (.int k n) ∧ (Lit.int k n).wf = true
def DBool (b : Bool) (d : DataW H) : Prop := d = .lit (.bool b)
def DStr (s : ByteArray) (d : DataW H) : Prop := d = .lit (.string s.data.toList) ∧ s.size ≤ maxLen
def DSlice {α : Type} (D : α → DataW H → Prop) (xs : List α) (d : DataW H) : Prop :=
  xs.length ≤ maxLen ∧ ((xs = [] ∧ d = .nil) ∨ ∃ es sp, d = .slice es sp ∧ es.length = xs.length ∧ ∀ (i : Nat) x e, xs[i]? = some x → es[i]? = some e → D x e)
def DAgg {α : Type} (DL : α → List (DataW H) → Prop) (x : α) (d : DataW H) : Prop := ∃ ds, d = .agg ds ∧ DL x ds
def D1 {α : Type} (D : α → DataW H → Prop) (x : α) (ds : List (DataW H)) : Prop := ∃ d, ds = [d] ∧ D x d
def DC {α β : Type} (D : α → DataW H → Prop) (DL : β → List (DataW H) → Prop) (x : α × β) (ds : List (DataW H)) : Prop := ∃ d r, ds = d :: r ∧ D x.1 d ∧ DL x.2 r

theorem rdr_int {P : Program} {t : TypeId} {k : IntKind} (ht : P.underlying t = some (.int k)) : Rdr (H := H) P t (Kd.int k) (DInt k) := by
  intro enc w base spare held fuel cs x h
  obtain ⟨n, rfl, rfl, hw⟩ := DataW.trod_int ht h
  exact ⟨n, rfl, rfl, hw⟩
theorem rdr_bool {P : Program} {t : TypeId} (ht : P.underlying t = some .bool) : Rdr (H := H) P t Kd.bool DBool := by
  intro enc w base spare held fuel cs x h
  obtain ⟨n, rfl, rfl⟩ := DataW.trod_bool ht h
  exact ⟨n, rfl, rfl⟩
theorem rdr_str {P : Program} {t : TypeId} (ht : P.underlying t = some .string) : Rdr (H := H) P t Kd.string DStr := by
  intro enc w base spare held fuel cs x h
  obtain ⟨s, rfl, rfl, hs⟩ := DataW.trod_string ht h
  exact ⟨s, rfl, rfl, hs⟩
theorem maxLen_eq : maxLen = 9223372036854775807 := by decide
theorem rdr_slice {P : Program} {t e : TypeId} {α : Type} {d : Kd α} {D : α → DataW H → Prop} (ht : P.underlying t = some (.slice e)) (hc : P.cellsOf e = d.sz) (he : Rdr P e d D) :
    Rdr P t (Kd.slice e d) (DSlice D) := by
  intro enc w base spare held fuel cs x h
  rcases open_slice ht h with ⟨rfl, rfl⟩ | ⟨a, len, cap, m, n, Ds, Pl, rfl, hb, hl, hm, hmm, rfl, hx⟩
  · exact ⟨[], ⟨none, 0, rfl, Nat.le_refl _, rfl, by simp, fun h => absurd h (by simp)⟩, Nat.zero_le _, .inl ⟨rfl, rfl⟩⟩
  · have hlm : len ≤ m := by rw [hmm]; split <;> omega
    have each : ∀ i, i < len → ∃ y c, c.length = d.sz ∧ d.K w y c ∧ D y (Ds i) ∧ ∀ j u, c[j]? = some u → w.cell? (a.add (i * d.sz + j)) = some u := by
      intro i hi
      obtain ⟨cs', h1, h2⟩ := hx i (by omega)
      rw [hc] at h1
      obtain ⟨_, hlen, hcell⟩ := World.cells?_some h1
      obtain ⟨y, hk, hd⟩ := he enc w base spare held n cs' _ h2
      refine ⟨y, cs', hlen, hk, hd, fun j u hj => ?_⟩
      have hj' : j < d.sz := by
        have := (List.getElem?_eq_some_iff.1 hj).1
        omega
      have := hcell j hj'
      rw [Go.Deep.add_add] at this
      rw [this, hj]
    obtain ⟨ys, hys, hy⟩ : ∃ ys : List α, ys.length = len ∧ ∀ i, i < len → ∃ y c, ys[i]? = some y ∧ c.length = d.sz ∧ d.K w y c ∧ D y (Ds i) ∧ ∀ j u, c[j]? = some u → w.cell? (a.add (i * d.sz + j)) = some u := by
      clear h hx hl hlm hmm hm hb
      induction len with
      | zero => exact ⟨[], rfl, fun i hi => absurd hi (Nat.not_lt_zero _)⟩
      | succ l ih =>
        obtain ⟨ys, h1, h2⟩ := ih (fun i hi => each i (by omega))
        obtain ⟨y, c, h3, h4, h5, h6⟩ := each l (by omega)
        refine ⟨ys ++ [y], by simp [h1], fun i hi => ?_⟩
        rcases Nat.lt_or_ge i l with hil | hil
        · obtain ⟨y', c', g1, g2⟩ := h2 i hil
          exact ⟨y', c', by rw [List.getElem?_append_left (by omega)]; exact g1, g2⟩
        · obtain rfl : i = l := by omega
          exact ⟨y, c, by rw [List.getElem?_append_right (by omega)]; simp [h1], h3, h4, h5, h6⟩
    have hlen9 : len ≤ 9223372036854775807 := by
      have := maxLen_eq
      omega
    refine ⟨ys, ⟨some a, cap, by rw [hys], by omega, rfl, by omega, fun _ => ⟨a, rfl, fun j p hp => ?_⟩⟩, by omega, .inr ⟨_, _, rfl, by simp [hys], fun i y e hi he' => ?_⟩⟩
    · have hj : j < len := by
        have := (List.getElem?_eq_some_iff.1 hp).1
        omega
      obtain ⟨y, c, h1, h2, h3, _, h4⟩ := hy j hj
      rw [h1] at hp
      obtain rfl := Option.some.inj hp
      exact ⟨c, h2, h3, h4⟩
    · have hj : i < len := by
        have := (List.getElem?_eq_some_iff.1 hi).1
        omega
      obtain ⟨y', c, h1, h2, h3, h5, h4⟩ := hy i hj
      rw [h1] at hi
      obtain rfl := Option.some.inj hi
      rw [List.getElem?_map, List.getElem?_range hj] at he'
      obtain rfl := Option.some.inj he'
      exact h5

/-- The fields of a struct, from cell off on. -/
def Flds (P : Program) (fs : List Field) (off : Nat) {α : Type} (d : Kd α) (DL : α → List (DataW H) → Prop) : Prop :=
  ∀ (enc : TypeId × Value → H) (w : World) (base : Nat) (spare : Nat → Bool) (held : Bool) (n : Nat) (cs : List Value) (xs : List (DataW H × List MemPlace)),
    (∀ (i : Nat) (f : Field), fs[i]? = some f → DataW.trod enc P w base spare held n f.type ((cs.drop f.offset).take (P.cellsOf f.type)) = xs[i]?) → xs.length = fs.length → cs.length = off + d.sz →
    ∃ y, d.K w y (cs.drop off) ∧ DL y (xs.map (·.1))
theorem flds_one {P : Program} {f : Field} {off : Nat} {α : Type} {d : Kd α} {D : α → DataW H → Prop} (ho : f.offset = off) (hc : P.cellsOf f.type = d.sz) (h : Rdr P f.type d D) : Flds P [f] off d (D1 D) := by
  intro enc w base spare held n cs xs hx hl hcs
  match xs, hl with
  | [x], _ =>
    have h0 := hx 0 f rfl
    rw [ho, hc, List.take_of_length_le (by simp; omega)] at h0
    obtain ⟨y, hk, hd⟩ := h enc w base spare held n _ _ h0
    exact ⟨y, hk, _, rfl, hd⟩
theorem flds_cons {P : Program} {f : Field} {fs : List Field} {off off' : Nat} {α β : Type} {a : Kd α} {b : Kd β} {D : α → DataW H → Prop} {DL : β → List (DataW H) → Prop}
    (ho : f.offset = off) (hc : P.cellsOf f.type = a.sz) (h : Rdr P f.type a D) (ho' : off' = off + a.sz) (hr : Flds P fs off' b DL) : Flds P (f :: fs) off (Kd.pair a b) (DC D DL) := by
  intro enc w base spare held n cs xs hx hl hcs
  have hsz : (Kd.pair a b).sz = a.sz + b.sz := rfl
  match xs, hl with
  | x :: xs, hl =>
    have h0 := hx 0 f rfl
    rw [ho, hc] at h0
    obtain ⟨y, hk, hd⟩ := h enc w base spare held n _ _ h0
    obtain ⟨z, hk', hd'⟩ := hr enc w base spare held n cs xs (fun i g hg => hx (i + 1) g hg) (by simpa using hl) (by omega)
    refine ⟨(y, z), ⟨_, _, ?_, hk, hk'⟩, _, _, rfl, hd, hd'⟩
    rw [ho', ← List.drop_drop, List.take_append_drop]
theorem rdr_struct {P : Program} {t : TypeId} {fs : Array Field} {α : Type} {d : Kd α} {DL : α → List (DataW H) → Prop} (ht : P.underlying t = some (.struct fs)) (hc : P.cellsOf t = d.sz) (h : Flds P fs.toList 0 d DL) :
    Rdr P t d (DAgg DL) := by
  intro enc w base spare held fuel cs x hx
  obtain ⟨xs, n, _, rfl, hl, hlen, hg⟩ := DataW.trod_struct ht hx
  obtain ⟨y, hk, hd⟩ := h enc w base spare held n cs xs (fun i f hf => hg i f (by simpa using hf)) (by simpa using hlen) (by omega)
  exact ⟨y, by simpa using hk, _, rfl, hd⟩
theorem rdr_iso {P : Program} {t : TypeId} {α β : Type} {d : Kd α} {D : α → DataW H → Prop} (f : β → α) (g : α → β) (hfg : ∀ x, f (g x) = x) (h : Rdr P t d D) : Rdr P t (Kd.iso d f) (fun x => D (f x)) := by
  intro enc w base spare held fuel cs x hx
  obtain ⟨y, hk, hd⟩ := h enc w base spare held fuel cs x hx
  exact ⟨g y, by show d.K w (f (g y)) cs; rw [hfg]; exact hk, by show D (f (g y)) x.1; rw [hfg]; exact hd⟩

/-- A row's argument that is a slice. -/
theorem open_sl {P : Program} {t e : TypeId} {α : Type} {d : Kd α} {D : List α → DataW H → Prop} {enc : TypeId × Value → H} {w : World} {base : Nat} {spare : Nat → Bool} {held : Bool} {v : Value} {x : DataW H} {ps : List MemPlace} {r : Reach} {b0 : Nat}
    (hr : Rdr P t (Kd.slice e d) D) (ht : P.underlying t = some (.slice e)) (hv : Value.okWide P w r b0 t v) (h : DataW.Trod enc P w base spare held t v x ps) :
    ∃ A c l, v = .slice A (List.length l) c ∧ l.length ≤ c ∧ d.C w A l.length l ∧ D l x := by
  obtain ⟨fuel, hf⟩ := h
  obtain ⟨a, len, cap, rfl⟩ := okWide_slice ht hv
  obtain ⟨l, ⟨A, c, hcs, hlc, hC⟩, hd⟩ := hr _ _ _ _ _ _ _ _ hf
  simp [Value.cells] at hcs
  obtain ⟨rfl, rfl, rfl⟩ := hcs
  exact ⟨_, _, l, rfl, hlc, hC, hd⟩
/-- .. a struct by value. -/
theorem open_st {P : Program} {t : TypeId} {fs : Array Field} {α : Type} {d : Kd α} {D : α → DataW H → Prop} {enc : TypeId × Value → H} {w : World} {base : Nat} {spare : Nat → Bool} {held : Bool} {v : Value} {x : DataW H} {ps : List MemPlace} {r : Reach} {b0 : Nat}
    (hr : Rdr P t d D) (ht : P.underlying t = some (.struct fs)) (hv : Value.okWide P w r b0 t v) (h : DataW.Trod enc P w base spare held t v x ps) :
    ∃ cs y, v = .agg cs ∧ d.K w y cs.toList ∧ D y x := by
  obtain ⟨fuel, hf⟩ := h
  obtain ⟨cs, rfl, hsz⟩ := okWide_struct ht hv
  obtain ⟨y, hk, hd⟩ := hr _ _ _ _ _ _ _ _ hf
  exact ⟨cs, y, rfl, hk, hd⟩
end
end Go.Proofs.YtglhedahannjiaaGreatDoor.Read
