/- A part of the proof of segmentMemoryUpto_holds: DeTruncate, Ff, Sm. No condition. -/
import Derived.Test.YtkmmlfphcfcbgaaGreatDoorC23

/- Truncate, whole (printed by wip/tools/wrap.py). -/
namespace Go.Proofs.YtkmmlfphcfcbgaaGreatDoor.Dw
open Go.RowKit Go.ChangeMaps Go.Proofs.YtkmmlfphcfcbgaaGreatDoor.Mp Go.Proofs.YtkmmlfphcfcbgaaGreatDoor.Dm Go.Proofs.YtkmmlfphcfcbgaaGreatDoor.Da
set_option linter.unusedVariables false
set_option linter.unusedSimpArgs false
set_option linter.unusedSectionVars false
end Go.Proofs.YtkmmlfphcfcbgaaGreatDoor.Dw

/- A disk with its invariants and its measures: the rest of its calls. -/
namespace Go.Proofs.YtkmmlfphcfcbgaaGreatDoor.Dm
set_option linter.unusedVariables false
end Go.Proofs.YtkmmlfphcfcbgaaGreatDoor.Dm
namespace Go.Proofs.YtkmmlfphcfcbgaaGreatDoor.Dw
open Go.RowKit Go.ChangeMaps Go.Proofs.YtkmmlfphcfcbgaaGreatDoor.Mp Go.Proofs.YtkmmlfphcfcbgaaGreatDoor.Dm Go.Proofs.YtkmmlfphcfcbgaaGreatDoor.Da
set_option linter.unusedVariables false
set_option linter.unusedSimpArgs false
set_option linter.unusedSectionVars false
section
variable {B : Nat} {w : World} {b : Nat} {lab : Nat → Option Lb} {eb : Nat → Addr} {L : List Err} {n m : Nat} {D : Disk}
theorem Live.arm (h : Live B w b lab eb L n m D) (v : Value) (fs : List (Int × Int)) (cut : Int) (hv : FailsAt w v fs) (hn : fs.length ≤ 8796093022208) :
    Calls Tryz.prog 36 #[dptr b, v, .int .i64 cut] w fun e w' => e = .returned (.tuple #[]) ∧ Next B w lab w' b eb L n m (D.arm fs cut) := by
  obtain ⟨A, h1⟩ := h.dsk
  refine (arm_calls h1 v fs cut hv hn).mono ?_
  rintro e w' ⟨he, hx⟩
  exact ⟨he, h.next hx (h.inv.arm fs cut) (h.sz.arm fs cut) h.fit⟩
theorem Live.names (h : Live B w b lab eb L n m D) :
    Calls Tryz.prog 30 #[dptr b] w fun e w' => ∃ v, e = .returned (.tuple #[v, errV eb D.names.1]) ∧ w'.ownsRow w.heap.size 9 1 v D.names.2.length (strs D.names.2) ∧ Frm (fun _ => False) w w' := by
  obtain ⟨A, h1⟩ := h.dsk
  exact names_calls h1 h.ers h.inv (Nat.le_trans h.sz.files h.fit.fn)
set_option maxRecDepth 100000 in
theorem Live.ops (h : Live B w b lab eb L n m D) : Calls Tryz.prog 31 #[dptr b] w fun e w' => e = .returned (.int .i64 D.count) ∧ w' = w := by
  obtain ⟨A, h1⟩ := h.dsk
  have c4 : w.cell? ⟨b, 4, none⟩ = some (.int .i64 D.count) := main_cell h1.blk rfl
  clear h h1
  unfold dptr
  go_enter Tryz.func31, Tryz.ntmps31
  go_wp2
  go_ret
  exact ⟨rfl, rfl⟩
end
/-- An image that is read. -/
def ImgRd (w : World) (v : Value) (l : List Plain) : Prop := ∃ A c, v = .agg #[.slice A l.length c] ∧ l.length ≤ c ∧ fileK.C w A l.length l
theorem ImgAt.rd {w : World} {base : Nat} {v : Value} {l : List Plain} (h : ImgAt w base v l) : ImgRd w v l := by
  obtain ⟨A, c, e, h⟩ := h
  obtain ⟨A2, c2, e2, h2, h3⟩ := Go.Proofs.YtkmmlfphcfcbgaaGreatDoorW.PrintWords.Kd.R_reads h
  simp only [Value.slice.injEq, true_and] at e2
  obtain ⟨rfl, rfl⟩ := e2
  exact ⟨A, c, e, h2, h3⟩
theorem ImgRd.frm {w w' : World} {v : Value} {l : List Plain} (h : ImgRd w v l) (hf : Frm (fun _ => False) w w') : ImgRd w' v l := by
  obtain ⟨A, c, e, h1, h2⟩ := h
  exact ⟨A, c, e, h1, Go.Proofs.YtkmmlfphcfcbgaaGreatDoorW.PrintWords.Kd.C_below h2 (hf.below (fun _ h => h.elim) (Nat.le_refl _))⟩
end Go.Proofs.YtkmmlfphcfcbgaaGreatDoor.Dw

/- A segment in memory, and its calls. -/
namespace Go.Proofs.YtkmmlfphcfcbgaaGreatDoor.Dw
open Go.RowKit Go.ChangeMaps Go.Proofs.YtkmmlfphcfcbgaaGreatDoor.Mp Go.Proofs.YtkmmlfphcfcbgaaGreatDoor.Dm Go.Proofs.YtkmmlfphcfcbgaaGreatDoor.Da Go.Shelf
open Go.Proofs.YtkmmlfphcfcbgaaGreatDoor.Sg (SegS packE)
open Go.Proofs.YtkmmlfphcfcbgaaGreatDoorW.PrintWords (ReadsInt string_of_reads)
set_option linter.unusedVariables false
set_option linter.unusedSimpArgs false
set_option linter.unusedSectionVars false
/-- The library's tables and the errors that a segment's calls name. -/
structure Env (B : Nat) (w : World) (L : List Err) : Prop where
  crc : CrcAt B w
  tab : TabAt 18 Lib.deBruijn64tab w
  tlow : 18 < B
  sub : ∀ c, c ∈ [1, 2, 3, 4, 5, 6, 7, 8, 9, 13, 15] → c ∈ L
theorem Env.frm {B : Nat} {w w' : World} {L : List Err} {F : Nat → Prop} (h : Env B w L) (hf : Frm F w w') (hF : ∀ k, F k → B ≤ k) : Env B w' L :=
  ⟨h.crc.frm hf hF, TabAt.frm h.tab hf (fun hk => by have := hF _ hk; have := h.tlow; omega), h.tlow, h.sub⟩
def segP (sb : Nat) : Value := .pointer (some ⟨sb, 0, none⟩)
def segC (b : Nat) (s : SegS) : Array Value := #[dptr b, .string s.nm, .int .u64 s.next, .int .i64 s.blocks, .bool s.whole, .bool s.sick]
/-- A disk at b, and a segment over it at sb. -/
structure SegL (B : Nat) (w : World) (b : Nat) (lab : Nat → Option Lb) (eb : Nat → Addr) (L : List Err) (n m : Nat) (D : Disk) (sb : Nat) (s : SegS) : Prop where
  live : Live B w b lab eb L n m D
  env : Env B w L
  blk : w.heap[sb]? = some (.cells (segC b s) 104 (0, 0))
  out : ¬ Ft lab sb
  low : B ≤ sb
  nm : s.nm.size ≤ 9223372036854775807
  nxt : s.next ≤ 9223372036854775807
  blo : s.blocks ≤ 4398046511104
/-- Behind a call of a segment's. -/
def NextS (B : Nat) (w : World) (lab : Nat → Option Lb) (w' : World) (b : Nat) (eb : Nat → Addr) (L : List Err) (n m : Nat) (D : Disk) (sb : Nat) (s : SegS) : Prop :=
  ∃ lab', SegL B w' b lab' eb L n m D sb s ∧ Frm (fun k => k = sb ∨ Ft lab k) w w' ∧ ∀ k, k < w.heap.size → Ft lab' k → Ft lab k
theorem Live.frmF {B : Nat} {w w' : World} {b : Nat} {lab : Nat → Option Lb} {eb : Nat → Addr} {L : List Err} {n m : Nat} {D : Disk} {F : Nat → Prop} (h : Live B w b lab eb L n m D) (hf : Frm F w w') (hF : ∀ k, F k → ¬ Ft lab k) (hB : ∀ k, F k → B ≤ k) : Live B w' b lab eb L n m D := by
  obtain ⟨⟨A, h1⟩, h2, h3, h4, h5⟩ := h
  refine ⟨⟨A, h1.frame hf (fun k hk => ?_)⟩, h2.frm hf hB, h3, h4, h5⟩
  have := hF k hk
  unfold Ft at this
  cases hl : lab k with
  | none => rfl
  | some p => rw [hl] at this; exact absurd rfl this
section
variable {B : Nat} {w : World} {b : Nat} {lab : Nat → Option Lb} {eb : Nat → Addr} {L : List Err} {n m : Nat} {D : Disk} {sb : Nat} {s : SegS}
theorem SegL.lt (h : SegL B w b lab eb L n m D sb s) : sb < w.heap.size := blk_lt h.blk
/-- The disk has turned; the segment says the same of itself. -/
theorem SegL.turn (h : SegL B w b lab eb L n m D sb s) {w' : World} {n' m' : Nat} {D' : Disk} (hn : Next B w lab w' b eb L n' m' D') : NextS B w lab w' b eb L n' m' D' sb s := by
  obtain ⟨lab', h1, h2, h3⟩ := hn
  refine ⟨lab', ⟨h1, h.env.frm h2 h.live.base, (h2.block sb h.lt h.out).trans h.blk, fun hk => h.out (h3 sb h.lt hk), h.low, h.nm, h.nxt, h.blo⟩, h2.mono (fun _ _ h => Or.inr h), h3⟩
/-- The segment says something else of itself. -/
theorem SegL.put (h : SegL B w b lab eb L n m D sb s) {w' : World} {s' : SegS} (hf : Frm (fun k => k = sb) w w') (hb : w'.heap[sb]? = some (.cells (segC b s') 104 (0, 0))) (h1 : s'.nm.size ≤ 9223372036854775807) (h2 : s'.next ≤ 9223372036854775807) (h3 : s'.blocks ≤ 4398046511104) : NextS B w lab w' b eb L n m D sb s' :=
  ⟨lab, ⟨h.live.frmF hf (fun k e => e ▸ h.out) (fun k e => e ▸ h.low), h.env.frm hf (fun k e => e ▸ h.low), hb, h.out, h.low, h1, h2, h3⟩, hf.mono (fun _ _ h => Or.inl h), fun _ _ h => h⟩
theorem SegL.frm (h : SegL B w b lab eb L n m D sb s) {w' : World} (hf : Frm (fun _ => False) w w') : SegL B w' b lab eb L n m D sb s :=
  ⟨h.live.frm hf, h.env.frm hf (fun _ h => h.elim), (hf.block sb h.lt id).trans h.blk, h.out, h.low, h.nm, h.nxt, h.blo⟩
theorem NextS.trans {w1 w2 : World} {n1 m1 n2 m2 : Nat} {D1 D2 : Disk} {s1 s2 : SegS} (h : NextS B w lab w1 b eb L n1 m1 D1 sb s1) (k : ∀ lab1, SegL B w1 b lab1 eb L n1 m1 D1 sb s1 → NextS B w1 lab1 w2 b eb L n2 m2 D2 sb s2) : NextS B w lab w2 b eb L n2 m2 D2 sb s2 := by
  obtain ⟨lab1, h1, h2, h3⟩ := h
  obtain ⟨lab2, k1, k2, k3⟩ := k lab1 h1
  exact ⟨lab2, k1, h2.trans k2 (fun i hi hl => hl.elim Or.inl (fun hl => Or.inr (h3 i hi hl))), fun i hi hl => h3 i hi (k3 i (Nat.lt_of_lt_of_le hi h2.size) hl)⟩
theorem SegL.cell (h : SegL B w b lab eb L n m D sb s) : w.cell? ⟨sb, 0, none⟩ = some (dptr b) ∧ w.cell? ⟨sb, 1, none⟩ = some (.string s.nm) ∧ w.cell? ⟨sb, 2, none⟩ = some (.int .u64 s.next) ∧ w.cell? ⟨sb, 3, none⟩ = some (.int .i64 s.blocks) ∧ w.cell? ⟨sb, 4, none⟩ = some (.bool s.whole) ∧ w.cell? ⟨sb, 5, none⟩ = some (.bool s.sick) :=
  ⟨cell_of h.blk rfl, cell_of h.blk rfl, cell_of h.blk rfl, cell_of h.blk rfl, cell_of h.blk rfl, cell_of h.blk rfl⟩
theorem SegL.free (h : SegL B w b lab eb L n m D sb s) (i : Nat) : w.frozen? ⟨sb, i, none⟩ = false := frozen_of h.blk
theorem set_frm (v : Value) (i : Nat) : Frm (fun k => k = sb) w (w.setCell ⟨sb, i, none⟩ v) := (Frm.refl _ _).setCell _ _ (fun _ => rfl)
set_option maxRecDepth 100000 in
theorem next_calls (h : SegL B w b lab eb L n m D sb s) : Calls Tryz.prog 40 #[segP sb] w fun e w' => e = .returned (.int .u64 s.next) ∧ w' = w := by
  obtain ⟨c0, c1, c2, c3, c4, c5⟩ := h.cell
  clear h
  unfold segP
  go_enter Tryz.func40, Tryz.ntmps40
  go_wp2
  go_ret
  exact ⟨rfl, rfl⟩
set_option maxRecDepth 100000 in
theorem blocks_calls (h : SegL B w b lab eb L n m D sb s) : Calls Tryz.prog 41 #[segP sb] w fun e w' => e = .returned (.int .i64 s.blocks) ∧ w' = w := by
  obtain ⟨c0, c1, c2, c3, c4, c5⟩ := h.cell
  clear h
  unfold segP
  go_enter Tryz.func41, Tryz.ntmps41
  go_wp2
  go_ret
  exact ⟨rfl, rfl⟩
set_option maxRecDepth 100000 in
theorem whole_calls (h : SegL B w b lab eb L n m D sb s) : Calls Tryz.prog 42 #[segP sb] w fun e w' => e = .returned (.bool s.whole) ∧ w' = w := by
  obtain ⟨c0, c1, c2, c3, c4, c5⟩ := h.cell
  clear h
  unfold segP
  go_enter Tryz.func42, Tryz.ntmps42
  go_wp2
  go_ret
  exact ⟨rfl, rfl⟩
def _root_.Go.Proofs.YtkmmlfphcfcbgaaGreatDoor.Sg.SegS.met (s : SegS) (c : Err) : SegS := { s with sick := s.sick || !(c == 0) }
set_option maxRecDepth 100000 in
theorem met_calls (h : SegL B w b lab eb L n m D sb s) (c : Err) : Calls Tryz.prog 48 #[segP sb, errV eb c] w fun e w' => e = .returned (errV eb c) ∧ NextS B w lab w' b eb L n m D sb (s.met c) := by
  obtain ⟨c0, c1, c2, c3, c4, c5⟩ := h.cell
  have hfz := h.free 5
  have H := Lib.hid h
  have key : ∀ v, v = (s.met c).sick → NextS B w lab (w.setCell ⟨sb, 5, none⟩ (.bool v)) b eb L n m D sb (s.met c) := fun v hv =>
    H.out.put (set_frm _ _) (by rw [blk_set H.out.blk, hv]; rfl) H.out.nm H.out.nxt H.out.blo
  have KEY := Lib.hid key
  clear h key
  unfold segP
  by_cases hs : s.sick = true
  · have e0 : (s.met c).sick = true := by unfold SegS.met; simp [hs]
    have E0 := Lib.hid e0
    rw [hs] at c5
    clear hs e0
    go_enter Tryz.func48, Tryz.ntmps48
    go_wp2
    go_ret
    exact ⟨rfl, KEY.out _ E0.out.symm⟩
  · have hs' : s.sick = false := by simpa using hs
    rw [hs'] at c5
    by_cases h0 : c = 0
    · have e0 : (s.met c).sick = false := by unfold SegS.met; simp [hs', h0]
      have E0 := Lib.hid e0
      subst h0
      clear hs hs' e0
      unfold errV
      simp only [if_true]
      go_enter Tryz.func48, Tryz.ntmps48
      go_wp2
      go_ret
      exact ⟨rfl, KEY.out _ E0.out.symm⟩
    · have e0 : (s.met c).sick = true := by unfold SegS.met; simp [hs', h0]
      have E0 := Lib.hid e0
      clear hs hs' e0
      unfold errV
      rw [if_neg h0]
      clear h0
      go_enter Tryz.func48, Tryz.ntmps48
      go_wp2
      go_ret
      exact ⟨rfl, KEY.out _ E0.out.symm⟩
theorem NextS.from_ {w0 w' : World} {n' m' : Nat} {D' : Disk} {s' : SegS} (hf : Frm (fun _ => False) w w0) (h : NextS B w0 lab w' b eb L n' m' D' sb s') : NextS B w lab w' b eb L n' m' D' sb s' := by
  obtain ⟨lab', h1, h2, h3⟩ := h
  exact ⟨lab', h1, (hf.mono (fun _ _ h => h.elim)).trans h2 (fun _ _ h => h), fun k hk hl => h3 k (Nat.lt_of_lt_of_le hk hf.size) hl⟩
theorem NextS.seg {w' : World} {n' m' : Nat} {D' : Disk} {s' : SegS} (h : NextS B w lab w' b eb L n' m' D' sb s') : ∃ lab', SegL B w' b lab' eb L n' m' D' sb s' := by
  obtain ⟨lab', h1, _⟩ := h
  exact ⟨lab', h1⟩
theorem NextS.env {w' : World} {n' m' : Nat} {D' : Disk} {s' : SegS} (h : NextS B w lab w' b eb L n' m' D' sb s') : Env B w' L := by
  obtain ⟨lab', h1, _⟩ := h
  exact h1.env
theorem NextS.met_calls {w' : World} {n' m' : Nat} {D' : Disk} {s' : SegS} (h : NextS B w lab w' b eb L n' m' D' sb s') (c : Err) : Calls Tryz.prog 48 #[segP sb, errV eb c] w' fun e w2 => e = .returned (errV eb c) ∧ NextS B w lab w2 b eb L n' m' D' sb (s'.met c) := by
  obtain ⟨lab', h1, h2, h3⟩ := h
  refine (Dw.met_calls h1 c).mono ?_
  rintro e w2 ⟨rfl, lab2, k1, k2, k3⟩
  exact ⟨rfl, lab2, k1, h2.trans k2 (fun i hi hl => hl.elim Or.inl (fun hl => Or.inr (h3 i hi hl))), fun i hi hl => h3 i hi (k3 i (Nat.lt_of_lt_of_le hi h2.size) hl)⟩
theorem SegL.err (h : SegL B w b lab eb L n m D sb s) (c : Err) (hc : c ∈ [1, 2, 3, 4, 5, 6, 7, 8, 9, 13, 15]) : w.cell? ⟨gOf c, 0, none⟩ = some (errV eb c) := h.live.ers.var c (h.env.sub c hc)
set_option maxRecDepth 100000 in
theorem ssync_sick (h : SegL B w b lab eb L n m D sb s) (hs : s.sick = true) : Calls Tryz.prog 43 #[segP sb] w fun e w' => e = .returned (errV eb 13) ∧ w' = w := by
  obtain ⟨c0, c1, c2, c3, c4, c5⟩ := h.cell
  have e13 : w.cell? ⟨2, 0, none⟩ = some (errV eb 13) := h.err 13 (by decide)
  rw [hs] at c5
  clear h hs
  unfold segP
  go_enter Tryz.func43, Tryz.ntmps43
  go_wp2
  go_ret
  exact ⟨rfl, rfl⟩
set_option maxRecDepth 100000 in
set_option maxHeartbeats 1000000 in
theorem ssync_calls (h : SegL B w b lab eb L n m D sb s) (hs : s.sick = false) (hf : DFit (n + 1) m) : Calls Tryz.prog 43 #[segP sb] w fun e w' => e = .returned (errV eb (D.sync s.nm).1) ∧ NextS B w lab w' b eb L (n + 1) m (D.sync s.nm).2 sb (s.met (D.sync s.nm).1) := by
  obtain ⟨c0, c1, c2, c3, c4, c5⟩ := h.cell
  rw [hs] at c5
  have KS : ∀ W, Frm (fun _ => False) w W → Calls Tryz.prog 63 #[dptr b, .string s.nm] W fun e w' => e = .returned (errV eb (D.sync s.nm).1) ∧ NextS B w lab w' b eb L (n + 1) m (D.sync s.nm).2 sb s := fun W hW => by
    refine ((h.frm hW).live.syncW hf s.nm).mono ?_
    rintro e w' ⟨rfl, hn⟩
    exact ⟨rfl, ((h.frm hW).turn hn).from_ hW⟩
  have KS := Lib.hid KS
  have S0 := Lib.hid (And.intro c0 c1)
  have KM := Lib.hid (fun (W : World) (hW : NextS B w lab W b eb L (n + 1) m (D.sync s.nm).2 sb s) => hW.met_calls (D.sync s.nm).1)
  have ZZ : Hid (∀ W (s' : SegS), s'.nm = s.nm → NextS B w lab W b eb L (n + 1) m (D.sync s.nm).2 sb s' → W.cell? ⟨sb, 0, none⟩ = some (dptr b) ∧ W.cell? ⟨sb, 1, none⟩ = some (.string s.nm)) := Lib.hid (fun W s' hs hW => by
    obtain ⟨lab', h1⟩ := hW.seg
    exact ⟨h1.cell.1, hs ▸ h1.cell.2.1⟩)
  generalize (D.sync s.nm).1 = c at *
  generalize (D.sync s.nm).2 = D2 at *
  clear h hs
  unfold segP at *
  go_enter Tryz.func43, Tryz.ntmps43
  go_upto_region 5 with (fail)
  go_region_held3 (fun W => W.cell? ⟨sb, 0, none⟩ = some (dptr b) ∧ W.cell? ⟨sb, 1, none⟩ = some (.string s.nm))
    (first | exact S0.out | exact ZZ.out _ s rfl HX.out | exact ZZ.out _ (s.met c) rfl HY.out | go_keep)
    (first
      | (go_at_call 63; (with_reducible refine (KS.out _ (by first | exact Frm.refl _ _ | exact (Frm.refl _ _).drew)).mono ?_); rintro e u1 ⟨rfl, f1⟩; have HX := Lib.hid f1; clear f1)
      | (go_at_call 48; (with_reducible refine (KM.out _ HX.out).mono ?_); rintro e u2 ⟨rfl, f2⟩; have HY := Lib.hid f2; clear f2))
  all_goals
    go_wp2
    go_ret
    exact ⟨rfl, HY.out⟩
end
end Go.Proofs.YtkmmlfphcfcbgaaGreatDoor.Dw
