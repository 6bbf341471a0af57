/- A part of the proof of diskKeptUpto_holds: Eu. No condition. -/
import Derived.Test.YtglhedahannjiaaGreatDoorC23

/- Walks: DiskSectors, its helpers. -/
namespace Go.Proofs.YtglhedahannjiaaGreatDoor.Dw
open Go.RowKit Go.ChangeMaps Go.Proofs.YtglhedahannjiaaGreatDoor.Mp Go.Proofs.YtglhedahannjiaaGreatDoor.Dm Go.Proofs.YtglhedahannjiaaGreatDoor.Da
open Go.Proofs.YtglhedahannjiaaGreatDoorW.PrintWords (Kd ReadsInt string_of_reads)
set_option linter.unusedVariables false
set_option linter.unusedSimpArgs false
set_option linter.unusedSectionVars false
theorem ErrsAt.up {B B' : Nat} {w : World} {eb : Nat → Addr} {L : List Err} (h : ErrsAt B w eb L) (hB : B ≤ B') : ErrsAt B' w eb L :=
  ⟨h.var, h.blk, fun c hc => Nat.lt_of_lt_of_le (h.ebl c hc) hB, fun c hc => Nat.lt_of_lt_of_le (h.low c hc) hB, h.inj, h.six⟩
theorem reads_old {w w' : World} {k : IntKind} {A : Option Addr} {n : Nat} {xs : List Int} {B : Nat} (h : ReadsInt w k A n xs) (hf : Frm (fun k => B ≤ k) w w') (hB : w.heap.size ≤ B) : ReadsInt w' k A n xs := by
  refine ⟨h.1, h.2.1, fun hn => ?_⟩
  obtain ⟨ad, e, hc⟩ := h.2.2 hn
  refine ⟨ad, e, fun j hj => ?_⟩
  have hj' := hc j hj
  have hlt := World.block_lt_of_cell? w _ hj'
  rw [← hj']
  simp only [World.cell?]
  rw [hf.block _ hlt (by omega)]
theorem reads_spot {w : World} {k : IntKind} {A : Option Addr} {n : Nat} {xs : List Int} (h : ReadsInt w k A n xs) (hn : 0 < n) : ∃ g o, A = some ⟨g, o, none⟩ ∧ g < w.heap.size := by
  obtain ⟨⟨g, o, sp⟩, e, hc⟩ := h.2.2 hn
  have h0 := hc 0 hn
  have hlt := World.block_lt_of_cell? w _ h0
  simp only [Addr.add, if_true] at h0 hlt
  simp only [World.cell?] at h0
  cases sp with
  | none => exact ⟨g, o, e, hlt⟩
  | some s =>
    split at h0
    · simp at h0
    · cases h0
theorem reads_from {w : World} {A : Option Addr} {c : Nat} {xs : List Int} (h : ReadsInt w .u8 A xs.length xs) : FromAt w (.slice A xs.length c) xs := by
  rcases Nat.eq_zero_or_pos xs.length with h0 | h0
  · obtain rfl := List.eq_nil_of_length_eq_zero h0
    exact .inr (.inr ⟨_, _, rfl, rfl⟩)
  · obtain ⟨g, o, rfl, hg⟩ := reads_spot h h0
    obtain ⟨ad, e, hc⟩ := h.2.2 h0
    injection e with e
    subst e
    refine .inr (.inl ⟨g, o, c, rfl, fun j u hu => ?_⟩)
    have hj : j < xs.length := by have := (List.getElem?_eq_some_iff.1 hu).1; simpa [u8s] using this
    have := hc j hj
    rw [add_off] at this
    rw [this, ← hu]
    unfold u8s
    rw [List.getElem?_map, List.getElem?_eq_getElem hj]
    simp [List.getD_eq_getElem?_getD, List.getElem?_eq_getElem hj]
/-- What was there ahead of the disk is none of it. -/
theorem given_old {B : Nat} {w w' : World} {b : Nat} {lab : Nat → Option Lb} {eb : Nat → Addr} {L : List Err} {n m : Nat} {D : Disk} (h : Live B w' b lab eb L n m D) {A : Option Addr} {c : Nat} {xs : List Int} (hr : ReadsInt w .u8 A xs.length xs) (hf : Frm (fun k => B ≤ k) w w') (hB : w.heap.size ≤ B) : Given w' lab (.slice A xs.length c) xs := by
  refine ⟨reads_from (reads_old hr hf hB), fun hx g o n c e => ?_⟩
  obtain ⟨g', o', rfl, hg⟩ := reads_spot hr (List.length_pos_iff.2 hx)
  simp only [Value.slice.injEq, Option.some.injEq, Addr.mk.injEq] at e
  obtain ⟨⟨rfl, rfl, _⟩, _⟩ := e
  refine ⟨Nat.lt_of_lt_of_le hg hf.size, ?_⟩
  rcases hc : lab g' with _ | p
  · rfl
  · have := h.base g' (by unfold Ft; rw [hc]; rfl)
    omega
section
variable {B : Nat} {w0 w : World} {b : Nat} {lab : Nat → Option Lb} {eb : Nat → Addr} {L : List Err} {F S : List Int}
/-- A step of the script: the disk, and what is elder stands. -/
def Step (B : Nat) (w0 w' : World) (b : Nat) (eb : Nat → Addr) (L : List Err) (n m : Nat) (D : Disk) : Prop := ∃ lab', Live B w' b lab' eb L n m D ∧ Frm (fun k => B ≤ k) w0 w'
theorem Next.step {n m n' m' : Nat} {D D' : Disk} {w' : World} (h : Live B w b lab eb L n m D) (hf : Frm (fun k => B ≤ k) w0 w) (hx : Next B w lab w' b eb L n' m' D') : Step B w0 w' b eb L n' m' D' := by
  obtain ⟨lab', h1, h2, h3⟩ := hx
  exact ⟨lab', h1, hf.trans h2 (fun _ _ hk => h.base _ hk)⟩
theorem sec1_calls (h : Step B w0 w b eb L 0 0 Disk.new) :
    Calls Tryz.prog 12 #[.pointer (some ⟨b, 0, none⟩), .string ⟨#[102]⟩] w fun e w' => e = .returned .nilIface ∧ Step B w0 w' b eb L 1 0 secDisk0 := by
  obtain ⟨lab, h, hf⟩ := h
  have K := h.create (by decide) nF (by decide)
  rw [sec_create, errV_zero] at K
  refine K.mono ?_
  rintro e w' ⟨rfl, hx⟩
  exact ⟨rfl, Next.step h hf hx⟩
theorem sec2_calls (h : Step B w0 w b eb L 1 0 secDisk0) {A : Option Addr} {c : Nat} (hr : ReadsInt w0 .u8 A F.length F) (hB : w0.heap.size ≤ B) (hc : F.length ≤ c) (hl : F.length ≤ 1048576) (hF : ∀ x, x ∈ F → 0 ≤ x ∧ x < 256) :
    Calls Tryz.prog 13 #[.pointer (some ⟨b, 0, none⟩), .string ⟨#[102]⟩, .slice A F.length c] w fun e w' => e = .returned .nilIface ∧ Step B w0 w' b eb L 2 F.length (secDisk1 F) := by
  obtain ⟨lab, h, hf⟩ := h
  have K := h.append (by decide) nF A c F (given_old h hr hf hB) hc (by omega) hF
  rw [sec_append1, errV_zero, Nat.zero_add] at K
  refine K.mono ?_
  rintro e w' ⟨rfl, hx⟩
  exact ⟨rfl, Next.step h hf hx⟩
theorem sec3_calls {m : Nat} (h : Step B w0 w b eb L 2 m (secDisk1 F)) :
    Calls Tryz.prog 14 #[.pointer (some ⟨b, 0, none⟩), .string ⟨#[102]⟩] w fun e w' => e = .returned .nilIface ∧ Step B w0 w' b eb L 3 m (secDisk2 F) := by
  obtain ⟨lab, h, hf⟩ := h
  have K := h.sync (by decide) nF
  rw [sec_sync, errV_zero] at K
  refine K.mono ?_
  rintro e w' ⟨rfl, hx⟩
  exact ⟨rfl, Next.step h hf hx⟩
theorem sec4_calls {m : Nat} (h : Step B w0 w b eb L 3 m (secDisk2 F)) :
    Calls Tryz.prog 15 #[.pointer (some ⟨b, 0, none⟩)] w fun e w' => e = .returned .nilIface ∧ Step B w0 w' b eb L 4 m (secDisk3 F) := by
  obtain ⟨lab, h, hf⟩ := h
  have K := h.syncNames (by decide)
  rw [sec_names, errV_zero] at K
  refine K.mono ?_
  rintro e w' ⟨rfl, hx⟩
  exact ⟨rfl, Next.step h hf hx⟩
theorem sec5_calls {m : Nat} (h : Step B w0 w b eb L 4 m (secDisk3 F)) {A : Option Addr} {c : Nat} (hr : ReadsInt w0 .u8 A S.length S) (hB : w0.heap.size ≤ B) (hc : S.length ≤ c) (hl : S.length ≤ 1048576) (hm : m ≤ 1048576) (hS : ∀ x, x ∈ S → 0 ≤ x ∧ x < 256) :
    Calls Tryz.prog 13 #[.pointer (some ⟨b, 0, none⟩), .string ⟨#[102]⟩, .slice A S.length c] w fun e w' => e = .returned .nilIface ∧ Step B w0 w' b eb L 5 (m + S.length) (secDisk4 F S) := by
  obtain ⟨lab, h, hf⟩ := h
  have K := h.append (by decide) nF A c S (given_old h hr hf hB) hc (by omega) hS
  rw [sec_append2, errV_zero] at K
  refine K.mono ?_
  rintro e w' ⟨rfl, hx⟩
  exact ⟨rfl, Next.step h hf hx⟩
theorem sec6_calls {n m : Nat} (h : Step B w0 w b eb L n m (secDisk4 F S)) :
    Calls Tryz.prog 16 #[.pointer (some ⟨b, 0, none⟩)] w fun e w' => e = .returned (.tuple #[.int .i64 (secCount F S : Nat), .int .i64 0]) ∧ Step B w0 w' b eb L n m (secDisk4 F S) := by
  obtain ⟨lab, h, hf⟩ := h
  have K := h.waiting
  rw [sec_waiting, sec_changes] at K
  refine K.mono ?_
  rintro e w' ⟨rfl, hx⟩
  exact ⟨rfl, lab, h.frm hx, hf.trans hx (fun _ _ h => h.elim)⟩
theorem sec7_calls {n m : Nat} (h : Step B w0 w b eb L n m (secDisk4 F S)) {fs : List Int} {A : Option Addr} {c : Nat} (hr : ReadsInt w0 .i64 A fs.length fs) (hB : w0.heap.size ≤ B) (hl : fs.length ≤ 4611686018427387904) :
    Calls Tryz.prog 17 #[.pointer (some ⟨b, 0, none⟩), .agg #[.slice A fs.length c, .int .i64 0]] w fun e w' => ∃ iA ic, e = .returned (.agg #[.slice iA 1 ic]) ∧ fileK.R 41 w' w.heap.size (fun _ => True) (.slice iA 1 ic) [⟨nF, secData F S fs, secBads F S fs⟩] ∧ Frm (fun k => B ≤ k) w0 w' := by
  obtain ⟨lab, h, hf⟩ := h
  have hr' := reads_old hr hf hB
  have K := h.crash fs 0 A c (fun j hj => by
    obtain ⟨ad, e, hc⟩ := hr'.2.2 (by omega)
    refine ⟨ad, e, ?_⟩
    rw [hc j hj, List.getD_eq_getElem?_getD, List.getElem?_eq_getElem hj]; rfl) hl
  rw [sec_crash'] at K
  refine K.mono ?_
  rintro e w' ⟨v, rfl, ⟨iA, ic, rfl, hR⟩, hx⟩
  exact ⟨iA, ic, rfl, hR, hf.trans hx (fun _ _ h => h.elim)⟩
end
end Go.Proofs.YtglhedahannjiaaGreatDoor.Dw
