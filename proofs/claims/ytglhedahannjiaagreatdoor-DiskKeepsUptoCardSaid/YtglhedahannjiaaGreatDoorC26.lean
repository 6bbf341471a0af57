/- A part of the proof of diskDown_holds: Fg. No condition. -/
import Derived.Test.YtglhedahannjiaaGreatDoorC25

/- Walks: asked, one call of a script (printed by wip/tools/gen_asked.py). -/
namespace Go.Proofs.YtglhedahannjiaaGreatDoor.Dm
set_option linter.unusedVariables false
/-- One call of a script. -/
structure OpS where
  kind : Int
  name : Name
  to_ : Name
  data : List Int
  n : Int
  fails : List (Int × Int)
  cut : Int
  fs : List Int
  fn : Int
/-- What a call answers. -/
structure AnsS where
  e : Nat := 0
  data : List Int := []
  bad : List Int := []
  strs : List (Name × Nat) := []
  img : List Plain := []
  a : Nat := 0
  b : Nat := 0
  yes : Bool := false
def Disk.ask (D : Disk) (o : OpS) : AnsS × Disk :=
  if o.kind = 1 then ({ e := (D.create o.name).1 }, (D.create o.name).2) else
  if o.kind = 2 then ({ e := (D.append o.name o.data).1 }, (D.append o.name o.data).2) else
  if o.kind = 3 then ({ e := (D.sync o.name).1 }, (D.sync o.name).2) else
  if o.kind = 4 then ({ e := (D.truncate o.name o.n).1 }, (D.truncate o.name o.n).2) else
  if o.kind = 5 then ({ e := (D.rename o.name o.to_).1 }, (D.rename o.name o.to_).2) else
  if o.kind = 6 then ({ e := (D.remove o.name).1 }, (D.remove o.name).2) else
  if o.kind = 7 then ({ e := D.syncNames.1 }, D.syncNames.2) else
  if o.kind = 8 then ({ e := (D.read o.name).1, data := (D.read o.name).2.1, bad := (D.read o.name).2.2 }, D) else
  if o.kind = 9 then ({ e := D.names.1, strs := D.names.2 }, D) else
  if o.kind = 10 then ({ img := D.seenImg }, D) else
  if o.kind = 11 then ({ img := D.crash [] 0 }, D) else
  if o.kind = 12 then ({ img := D.crash o.fs o.fn }, D) else
  if o.kind = 13 then ({ a := D.waitingN, b := D.changes.length }, D) else
  if o.kind = 14 then ({}, D.arm o.fails o.cut) else
  if o.kind = 15 then ({ a := D.count, yes := D.off }, D) else
  ({}, D)
/-- What the machine's own bounds say of a call's arguments. -/
structure OpOk (o : OpS) : Prop where
  name : o.name.size ≤ 9223372036854775807
  to_ : o.to_.size ≤ 9223372036854775807
  data : ∀ x, x ∈ o.data → 0 ≤ x ∧ x < 256
  n : -9223372036854775808 ≤ o.n ∧ o.n ≤ 9223372036854775807
  fails : o.fails.length ≤ 8796093022208
  fs : o.fs.length ≤ 4611686018427387904
end Go.Proofs.YtglhedahannjiaaGreatDoor.Dm
namespace Go.Proofs.YtglhedahannjiaaGreatDoor.Dw
open Go.RowKit Go.ChangeMaps Go.Proofs.YtglhedahannjiaaGreatDoor.Mp Go.Proofs.YtglhedahannjiaaGreatDoor.Dm Go.Proofs.YtglhedahannjiaaGreatDoor.Da
open Go.Proofs.YtglhedahannjiaaGreatDoorW.PrintWords (Kd ReadsInt)
set_option linter.unusedVariables false
set_option linter.unusedSimpArgs false
set_option linter.unusedSectionVars false
/-- A call of a script, read where the law began. -/
def OpIn (w0 : World) (o : OpS) (v : Value) : Prop :=
  ∃ A1 c1 A2 c2 A3 c3, v = .agg #[.int .i64 o.kind, .string o.name, .string o.to_, .slice A1 o.data.length c1, .int .i64 o.n, .slice A2 o.fails.length c2, .int .i64 o.cut, .slice A3 o.fs.length c3, .int .i64 o.fn] ∧
    o.data.length ≤ c1 ∧ ReadsInt w0 .u8 A1 o.data.length o.data ∧ FailsAt w0 (.slice A2 o.fails.length c2) o.fails ∧ (∀ j (hj : j < o.fs.length), ∃ ad, A3 = some ad ∧ w0.cell? (ad.add j) = some (.int .i64 o.fs[j]))
/-- What is read where the law began stays. -/
theorem old_cell {B : Nat} {w0 w : World} (hw : Frm (fun k => B ≤ k) w0 w) (hB : w0.heap.size ≤ B) {a : Addr} {v : Value} (h : w0.cell? a = some v) : w.cell? a = some v := by
  have hl := World.block_lt_of_cell? w0 _ h
  rw [← h]
  exact World.cell?_of_block (hw.block _ hl (by omega))
theorem FailsAt.old {B : Nat} {w0 w : World} {v : Value} {fs : List (Int × Int)} (h : FailsAt w0 v fs) (hw : Frm (fun k => B ≤ k) w0 w) (hB : w0.heap.size ≤ B) : FailsAt w v fs := by
  obtain ⟨p, c, rfl, h⟩ := h
  refine ⟨p, c, rfl, fun j u hu => ?_⟩
  obtain ⟨a, e, hc⟩ := h j u hu
  exact ⟨a, e, old_cell hw hB hc⟩
/-- The cells of an answer. -/
structure AnsC (w : World) (base : Nat) (dv bv sv iv : Value) (a : AnsS) : Prop where
  data : w.ownsRow base 5 1 dv a.data.length (u8s a.data)
  bad : w.ownsRow base 3 1 bv a.bad.length (i64s a.bad)
  strs : w.ownsRow base 9 1 sv a.strs.length (strs a.strs)
  img : fileK.R 41 w base (fun _ => True) iv a.img
/-- An answer. -/
def AnsAt (w : World) (base : Nat) (v : Value) (a : AnsS) : Prop :=
  ∃ dv bv sv iv, v = .agg #[.int .i64 a.e, dv, bv, sv, iv, .int .i64 a.a, .int .i64 a.b, .bool a.yes] ∧ AnsC w base dv bv sv iv a
theorem AnsC.zero {w : World} {base : Nat} {a : AnsS} (h1 : a.data = []) (h2 : a.bad = []) (h3 : a.strs = []) (h4 : a.img = []) : AnsC w base (.slice none 0 0) (.slice none 0 0) (.slice none 0 0) (.slice none 0 0) a :=
  ⟨by rw [h1]; exact ⟨by simp [u8s], .inl ⟨rfl, rfl⟩⟩, by rw [h2]; exact ⟨by simp [i64s], .inl ⟨rfl, rfl⟩⟩, by rw [h3]; exact ⟨rfl, .inl ⟨rfl, rfl⟩⟩, by rw [h4]; exact Kd.R_nil _ _ _ _ _⟩
/-- A block of another kind is written: the answer's rows stay. -/
theorem AnsC.frm {w w' : World} {base : Nat} {dv bv sv iv : Value} {a : AnsS} {s : Nat} {cs : Array Value} (h : AnsC w base dv bv sv iv a) (hs : w.heap[s]? = some (.cells cs 59 (0, 0))) (hf : Frm (fun k => k = s) w w') : AnsC w' base dv bv sv iv a := by
  have hg : w.grownBy w' (some s) := ⟨hf.os, hf.tape, hf.output, hf.size, fun k hk hne => hf.block k hk (fun e => hne (by rw [e]))⟩
  refine ⟨own_grown h.data hg fun g hg2 e => ?_, own_grown h.bad hg fun g hg2 e => ?_, own_grown h.strs hg fun g hg2 e => ?_, ?_⟩
  · exact own_ne_cells h.data hs (by decide) (by rw [← e]; exact hg2.symm)
  · exact own_ne_cells h.bad hs (by decide) (by rw [← e]; exact hg2.symm)
  · exact own_ne_cells h.strs hs (by decide) (by rw [← e]; exact hg2.symm)
  · refine Kd.R_mono (Kd.R_step (Kd.R_types h.img hs (fun q hq => by rcases img_types hq with rfl | rfl | rfl <;> decide)) (fun k hk hlt => hf.block k hlt hk.2)) (fun _ hk => hk.1)
def ansCells (e a b : Nat) (yes : Bool) (dv bv sv iv : Value) : Array Value := #[.int .i64 e, dv, bv, sv, iv, .int .i64 a, .int .i64 b, .bool yes]
theorem Next.mono {B : Nat} {w w' : World} {b : Nat} {lab : Nat → Option Lb} {eb : Nat → Addr} {L : List Err} {n m n' m' : Nat} {D : Disk} (h : Next B w lab w' b eb L n m D) (hn : n ≤ n') (hm : m ≤ m') (hf : DFit n' m') : Next B w lab w' b eb L n' m' D := by
  obtain ⟨lab', h1, h2, h3⟩ := h
  exact ⟨lab', ⟨h1.dsk, h1.ers, h1.inv, h1.sz.mono hn hm, hf⟩, h2, h3⟩
theorem Live.stay {B : Nat} {w w' : World} {b : Nat} {lab : Nat → Option Lb} {eb : Nat → Addr} {L : List Err} {n m : Nat} {D : Disk} (h : Live B w b lab eb L n m D) (hf : Frm (fun _ => False) w w') : Next B w lab w' b eb L n m D :=
  ⟨lab, h.frm hf, hf.mono (fun _ _ h => h.elim), fun _ _ h => h⟩
/-- .. behind blocks of the call's own. -/
theorem Next.from_ {B : Nat} {w w0 w' : World} {b : Nat} {lab : Nat → Option Lb} {eb : Nat → Addr} {L : List Err} {n m : Nat} {D : Disk} (h : Next B w0 lab w' b eb L n m D) (hf : Frm (fun _ => False) w w0) : Next B w lab w' b eb L n m D := by
  obtain ⟨lab', h1, h2, h3⟩ := h
  exact ⟨lab', h1, (hf.mono (fun _ _ h => h.elim)).trans h2 (fun _ _ h => h), fun k hk hl => h3 k (Nat.lt_of_lt_of_le hk hf.size) hl⟩
theorem DFit.less {n m m2 : Nat} (h : DFit n m2) (hm : m ≤ m2) : DFit n m := ⟨h.fn, by have := h.fm; omega, Nat.le_trans (Nat.mul_le_mul_left _ (by omega)) h.fw⟩
theorem Live.off_ {B : Nat} {w w' : World} {b : Nat} {lab : Nat → Option Lb} {eb : Nat → Addr} {L : List Err} {n m : Nat} {D : Disk} {F : Nat → Prop} (h : Live B w b lab eb L n m D) (hf : Frm F w w') (hF : ∀ k, F k → lab k = none ∧ B ≤ k) : Live B w' b lab eb L n m D := by
  obtain ⟨A, h1⟩ := h.dsk
  exact ⟨⟨A, h1.frame hf (fun k hk => (hF k hk).1)⟩, h.ers.frm hf (fun k hk => (hF k hk).2), h.inv, h.sz, h.fit⟩
theorem le15 {a : Nat} (h : Nat.ble a 15 = true) : a ≤ 15 := Nat.le_of_ble_eq_true h
theorem failTo_le {ref : Err} {act : Disk → Disk} {wt : Bool} {part : Option (Int → Disk → Disk)} {D : Disk} (h : ref ≤ 15) : (D.run ref act wt part).1 ≤ 15 := by
  unfold Disk.run
  split
  · exact le15 rfl
  · split
    · exact le15 rfl
    · exact le15 rfl
    · split
      · exact le15 rfl
      · exact h
theorem gone_le (D : Disk) (n : Name) : D.gone n ≤ 15 := by unfold Disk.gone; split <;> decide
theorem create_le (D : Disk) (n : Name) : (D.create n).1 ≤ 15 := failTo_le (by unfold Disk.refuseCreate; split <;> (try split) <;> decide)
theorem append_le (D : Disk) (n : Name) (x : List Int) : (D.append n x).1 ≤ 15 := failTo_le (gone_le D n)
theorem sync_le (D : Disk) (n : Name) : (D.sync n).1 ≤ 15 := failTo_le (gone_le D n)
theorem trunc_le (D : Disk) (n : Name) (k : Int) : (D.truncate n k).1 ≤ 15 := failTo_le (by unfold Disk.refuseTrunc; split; exact gone_le D n; split <;> decide)
theorem rename_le (D : Disk) (a b : Name) : (D.rename a b).1 ≤ 15 := failTo_le (by unfold Disk.refuseRename; split; decide; exact gone_le D a)
theorem remove_le (D : Disk) (a : Name) : (D.remove a).1 ≤ 15 := failTo_le (gone_le D a)
theorem syncNames_le (D : Disk) : D.syncNames.1 ≤ 15 := failTo_le (by decide)
theorem read_le (D : Disk) (a : Name) : (D.read a).1 ≤ 15 := by unfold Disk.read; repeat (first | exact le15 rfl | split)
theorem names_le (D : Disk) : D.names.1 ≤ 15 := by unfold Disk.names; split <;> exact le15 rfl
/-- The world in which asked calls the disk. -/
def askW (w : World) (ov : Array Value) : World := ((w.alloc (.cells ov 55)).alloc (.cells (ansCells 0 0 0 false (.slice none 0 0) (.slice none 0 0) (.slice none 0 0) (.slice none 0 0)) 59)).alloc (.cells (ansCells 0 0 0 false (.slice none 0 0) (.slice none 0 0) (.slice none 0 0) (.slice none 0 0)) 59)
theorem askW_frm (w : World) (ov : Array Value) : Frm (fun _ => False) w (askW w ov) := ((((Frm.refl _ _).alloc _).alloc _).alloc _)
theorem askW_size (w : World) (ov : Array Value) : (askW w ov).heap.size = w.heap.size + 3 := by unfold askW; simp
theorem askW_r (w : World) (ov : Array Value) : (askW w ov).heap[w.heap.size + 1 + 1]? = some (.cells (ansCells 0 0 0 false (.slice none 0 0) (.slice none 0 0) (.slice none 0 0) (.slice none 0 0)) 59 (0, 0)) := by
  unfold askW
  have := blk_alloc (w := (w.alloc (.cells ov 55)).alloc (.cells (ansCells 0 0 0 false (.slice none 0 0) (.slice none 0 0) (.slice none 0 0) (.slice none 0 0)) 59)) (o := .cells (ansCells 0 0 0 false (.slice none 0 0) (.slice none 0 0) (.slice none 0 0) (.slice none 0 0)) 59)
  simp only [World.size_alloc] at this
  exact this
theorem askW_v (w : World) (ov : Array Value) : (askW w ov).heap[w.heap.size + 1]? = some (.cells (ansCells 0 0 0 false (.slice none 0 0) (.slice none 0 0) (.slice none 0 0) (.slice none 0 0)) 59 (0, 0)) := by
  unfold askW
  rw [blk_alloc_lt (by simp only [World.size_alloc]; omega)]
  have := blk_alloc (w := w.alloc (.cells ov 55)) (o := .cells (ansCells 0 0 0 false (.slice none 0 0) (.slice none 0 0) (.slice none 0 0) (.slice none 0 0)) 59)
  simp only [World.size_alloc] at this
  exact this
theorem ans_cells {w : World} {s : Nat} (h : w.heap[s]? = some (.cells (ansCells 0 0 0 false (.slice none 0 0) (.slice none 0 0) (.slice none 0 0) (.slice none 0 0)) 59 (0, 0))) : w.cell? ⟨s, 0, none⟩ = some (.int .i64 0) ∧ w.cell? ⟨s, 1, none⟩ = some (.slice none 0 0) ∧ w.cell? ⟨s, 2, none⟩ = some (.slice none 0 0) ∧ w.cell? ⟨s, 3, none⟩ = some (.slice none 0 0) ∧ w.cell? ⟨s, 4, none⟩ = some (.slice none 0 0) ∧ w.cell? ⟨s, 5, none⟩ = some (.int .i64 0) ∧ w.cell? ⟨s, 6, none⟩ = some (.int .i64 0) ∧ w.cell? ⟨s, 7, none⟩ = some (.bool false) ∧ ∀ i, w.frozen? ⟨s, i, none⟩ = false :=
  ⟨cell_of h rfl, cell_of h rfl, cell_of h rfl, cell_of h rfl, cell_of h rfl, cell_of h rfl, cell_of h rfl, cell_of h rfl, fun i => frozen_of h⟩
theorem ans_set {w : World} {s : Nat} {cs : Array Value} (h : w.heap[s]? = some (.cells cs 59 (0, 0))) (hs : cs.size = 8) (v0 v1 v2 v3 v4 v5 v6 v7 : Value) : ((((((((w.setCell ⟨s, 0, none⟩ v0).setCell ⟨s, 1, none⟩ v1).setCell ⟨s, 2, none⟩ v2).setCell ⟨s, 3, none⟩ v3).setCell ⟨s, 4, none⟩ v4).setCell ⟨s, 5, none⟩ v5).setCell ⟨s, 6, none⟩ v6).setCell ⟨s, 7, none⟩ v7).heap[s]? = some (.cells #[v0, v1, v2, v3, v4, v5, v6, v7] 59 (0, 0)) := by
  have e : cs = #[cs[0], cs[1], cs[2], cs[3], cs[4], cs[5], cs[6], cs[7]] := by
    apply Array.ext
    · simp [hs]
    · intro i h1 h2
      have : i = 0 ∨ i = 1 ∨ i = 2 ∨ i = 3 ∨ i = 4 ∨ i = 5 ∨ i = 6 ∨ i = 7 := by omega
      rcases this with rfl | rfl | rfl | rfl | rfl | rfl | rfl | rfl <;> rfl
  rw [e] at h
  rw [blk_set (blk_set (blk_set (blk_set (blk_set (blk_set (blk_set (blk_set h)))))))]
  simp
/-- Behind the call: the two blocks of the answer are as they were. -/
theorem ask_blocks {B : Nat} {w w1 : World} {b : Nat} {lab : Nat → Option Lb} {eb : Nat → Addr} {L : List Err} {n m : Nat} {D D' : Disk} {ov : Array Value} (h : Live B w b lab eb L n m D) {n' m' : Nat} (hx : Next B (askW w ov) lab w1 b eb L n' m' D') :
    w1.heap[w.heap.size + 1 + 1]? = some (.cells (ansCells 0 0 0 false (.slice none 0 0) (.slice none 0 0) (.slice none 0 0) (.slice none 0 0)) 59 (0, 0)) ∧ w1.heap[w.heap.size + 1]? = some (.cells (ansCells 0 0 0 false (.slice none 0 0) (.slice none 0 0) (.slice none 0 0) (.slice none 0 0)) 59 (0, 0)) := by
  obtain ⟨lab', _, hf, _⟩ := hx
  obtain ⟨A, hd⟩ := h.dsk
  have hno : ∀ k, w.heap.size ≤ k → ¬ Ft lab k := fun k hk hl => by
    obtain ⟨p, hp⟩ := Option.isSome_iff_exists.1 hl
    have := (hd.base k p hp).2
    omega
  exact ⟨(hf.block _ (by rw [askW_size]; omega) (hno _ (by omega))).trans (askW_r w ov), (hf.block _ (by rw [askW_size]; omega) (hno _ (by omega))).trans (askW_v w ov)⟩
/-- The two blocks are written: the disk stays. -/
theorem ask_end {B : Nat} {w w1 w2 : World} {b : Nat} {lab : Nat → Option Lb} {eb : Nat → Addr} {L : List Err} {n m : Nat} {D D' : Disk} {ov : Array Value} (h : Live B w b lab eb L n m D) {n' m' : Nat} (hx : Next B (askW w ov) lab w1 b eb L n' m' D') (hB : B ≤ w.heap.size) (hf : Frm (fun k => k = w.heap.size + 1 ∨ k = w.heap.size + 1 + 1) w1 w2) :
    Next B w lab w2 b eb L n' m' D' := by
  obtain ⟨A, hd⟩ := h.dsk
  obtain ⟨lab', h1, h2, h3⟩ := hx
  have hno : ∀ k, k = w.heap.size + 1 ∨ k = w.heap.size + 1 + 1 → lab' k = none := fun k hk => by
    rcases hl : lab' k with _ | p
    · rfl
    · have h4 := h3 k (by rw [askW_size]; omega) (by unfold Ft; rw [hl]; rfl)
      obtain ⟨q, hq⟩ := Option.isSome_iff_exists.1 h4
      have := (hd.base k q hq).2
      omega
  refine ⟨lab', ⟨?_, h1.ers.frm hf (fun k hk => by omega), h1.inv, h1.sz, h1.fit⟩, ?_, fun k hk hl => h3 k (by rw [askW_size]; omega) hl⟩
  · obtain ⟨A', h4⟩ := h1.dsk
    exact ⟨A', h4.frame hf hno⟩
  · exact (((askW_frm w ov).mono (fun _ _ h => h.elim)).trans h2 (fun _ _ h => h)).trans hf (fun i hi hk => by omega)
set_option maxHeartbeats 4000000 in
set_option maxRecDepth 100000 in
theorem asked_1 {w0 w : World} {B b n m m2 : Nat} {lab : Nat → Option Lb} {eb : Nat → Addr} {D : Disk} (h : Live B w b lab eb l7 n m D) (h15 : Errs15 B w eb) (hBw : B ≤ w.heap.size) (hw : Frm (fun k => B ≤ k) w0 w) (hB : w0.heap.size ≤ B) (o : OpS) (v : Value) (ho : OpIn w0 o v) (ok : OpOk o) (hmm : m ≤ m2) (hmd : o.kind = 2 → m + o.data.length ≤ m2) (hf : DFit (n + 1) m2) (hk : o.kind = 1) : Calls Tryz.prog 25 #[dptr b, v] w fun e w' => ∃ av, e = .returned av ∧ AnsAt w' w.heap.size av (D.ask o).1 ∧ Next B w lab w' b eb l7 (n + 1) m2 (D.ask o).2 := by
  obtain ⟨A1, c1, A2, c2, A3, c3, rfl, hc1, hr1, hf2, hf3⟩ := ho
  have hask : D.ask o = ({ e := (D.create o.name).1 }, (D.create o.name).2) := by unfold Disk.ask; simp [hk]
  rw [hask, hk]
  obtain ⟨ov, hov⟩ : ∃ ov : Array Value, ov = #[.int .i64 1, .string o.name, .string o.to_, .slice A1 o.data.length c1, .int .i64 o.n, .slice A2 o.fails.length c2, .int .i64 o.cut, .slice A3 o.fs.length c3, .int .i64 o.fn] := ⟨_, rfl⟩
  have h0 : Live B (askW w ov) b lab eb l7 n m D := h.frm (askW_frm w ov)
  have h150 : Errs15 B (askW w ov) eb := h15.frm (askW_frm w ov) (fun _ h => h.elim)
  have kop := h0.createW (n := n) (m := m) (hf.less hmm) o.name ok.name
  obtain ⟨cc, hcc⟩ : ∃ cc, cc = (D.create o.name).1 := ⟨_, rfl⟩
  have hle : cc ≤ 15 := by rw [hcc]; exact create_le D o.name
  rw [← hcc] at kop ⊢
  clear hcc hask
  generalize (D.create o.name).2 = D' at *
  subst hov
  have KOP := Lib.hid kop
  have H15 := Lib.hid h150
  have HL := Lib.hid h
  clear kop h150 h0 h15 hf2 hf3 hr1
  unfold dptr at KOP ⊢
  clear hk hmd
  go_enter Tryz.func25, Tryz.ntmps25
  go_wp2_with (first
    | (go_at_call 12; refine KOP.out.mono ?_; rintro e w' ⟨rfl, hx⟩; have KO := Lib.hid (of_calls (H15.out.frm hx.choose_spec.2.1 (fun k hk => HL.out.base k hk)) cc hle); obtain ⟨b5, b4⟩ := ask_blocks HL.out hx; obtain ⟨x0, x1, x2, x3, x4, x5, x6, x7, q5⟩ := ans_cells b5; obtain ⟨y0, y1, y2, y3, y4, y5, y6, y7, q4⟩ := ans_cells b4; have HX := Lib.hid (And.intro hx (And.intro b5 b4)); clear hx b5 b4)
    | (go_at_call 77; refine KO.out.mono ?_; rintro e w' ⟨rfl, rfl⟩))
  obtain ⟨hx, b5, b4⟩ := HX.out
  have b4r : (w'.setCell ⟨w.heap.size + 1 + 1, 0, none⟩ (.int .i64 (cc : Nat))).heap[w.heap.size + 1]? = some (.cells (ansCells 0 0 0 false (.slice none 0 0) (.slice none 0 0) (.slice none 0 0) (.slice none 0 0)) 59 (0, 0)) := by
    rw [blk_set_ne (by omega)]
    exact b4
  have k8 := ans_set b4r rfl (.int .i64 (cc : Nat)) (.slice none 0 0) (.slice none 0 0) (.slice none 0 0) (.slice none 0 0) (.int .i64 0) (.int .i64 0) (.bool false)
  have z0 := cell_of (i := 0) k8 rfl
  have z1 := cell_of (i := 1) k8 rfl
  have z2 := cell_of (i := 2) k8 rfl
  have z3 := cell_of (i := 3) k8 rfl
  have z4 := cell_of (i := 4) k8 rfl
  have z5 := cell_of (i := 5) k8 rfl
  have z6 := cell_of (i := 6) k8 rfl
  have z7 := cell_of (i := 7) k8 rfl
  refine bodyPost_ret (v := .agg #[.int .i64 (cc : Nat), .slice none 0 0, .slice none 0 0, .slice none 0 0, .slice none 0 0, .int .i64 0, .int .i64 0, .bool false]) (by simp [results, Tryz.results25, go_sem, z0, z1, z2, z3, z4, z5, z6, z7]) rfl ⟨_, rfl, ⟨_, _, _, _, rfl, AnsC.zero rfl rfl rfl rfl⟩, ?_⟩
  exact Next.mono (ask_end HL.out hx hBw ((((((((((Frm.refl _ _).setCell _ _ (fun _ => .inr rfl)).setCell _ _ (fun _ => .inl rfl)).setCell _ _ (fun _ => .inl rfl)).setCell _ _ (fun _ => .inl rfl)).setCell _ _ (fun _ => .inl rfl)).setCell _ _ (fun _ => .inl rfl)).setCell _ _ (fun _ => .inl rfl)).setCell _ _ (fun _ => .inl rfl)).setCell _ _ (fun _ => .inl rfl))) (by omega) hmm hf
set_option maxHeartbeats 4000000 in
set_option maxRecDepth 100000 in
theorem asked_2 {w0 w : World} {B b n m m2 : Nat} {lab : Nat → Option Lb} {eb : Nat → Addr} {D : Disk} (h : Live B w b lab eb l7 n m D) (h15 : Errs15 B w eb) (hBw : B ≤ w.heap.size) (hw : Frm (fun k => B ≤ k) w0 w) (hB : w0.heap.size ≤ B) (o : OpS) (v : Value) (ho : OpIn w0 o v) (ok : OpOk o) (hmm : m ≤ m2) (hmd : o.kind = 2 → m + o.data.length ≤ m2) (hf : DFit (n + 1) m2) (hk : o.kind = 2) : Calls Tryz.prog 25 #[dptr b, v] w fun e w' => ∃ av, e = .returned av ∧ AnsAt w' w.heap.size av (D.ask o).1 ∧ Next B w lab w' b eb l7 (n + 1) m2 (D.ask o).2 := by
  obtain ⟨A1, c1, A2, c2, A3, c3, rfl, hc1, hr1, hf2, hf3⟩ := ho
  have hask : D.ask o = ({ e := (D.append o.name o.data).1 }, (D.append o.name o.data).2) := by unfold Disk.ask; simp [hk]
  rw [hask, hk]
  obtain ⟨ov, hov⟩ : ∃ ov : Array Value, ov = #[.int .i64 2, .string o.name, .string o.to_, .slice A1 o.data.length c1, .int .i64 o.n, .slice A2 o.fails.length c2, .int .i64 o.cut, .slice A3 o.fs.length c3, .int .i64 o.fn] := ⟨_, rfl⟩
  have h0 : Live B (askW w ov) b lab eb l7 n m D := h.frm (askW_frm w ov)
  have h150 : Errs15 B (askW w ov) eb := h15.frm (askW_frm w ov) (fun _ h => h.elim)
  have kop := h0.appendW (n := n) (m := m) o.name A1 c1 o.data (hf.less (hmd hk)) (given_old h0 hr1 (hw.trans (askW_frm w ov) (fun _ _ h => h.elim)) hB) hc1 ok.data
  obtain ⟨cc, hcc⟩ : ∃ cc, cc = (D.append o.name o.data).1 := ⟨_, rfl⟩
  have hle : cc ≤ 15 := by rw [hcc]; exact append_le D o.name o.data
  rw [← hcc] at kop ⊢
  clear hcc hask
  generalize (D.append o.name o.data).2 = D' at *
  subst hov
  have KOP := Lib.hid kop
  have H15 := Lib.hid h150
  have HL := Lib.hid h
  clear kop h150 h0 h15 hf2 hf3 hr1
  unfold dptr at KOP ⊢
  have HMD := Lib.hid (hmd hk)
  clear hk hmd
  go_enter Tryz.func25, Tryz.ntmps25
  go_wp2_with (first
    | (go_at_call 13; refine KOP.out.mono ?_; rintro e w' ⟨rfl, hx⟩; have KO := Lib.hid (of_calls (H15.out.frm hx.choose_spec.2.1 (fun k hk => HL.out.base k hk)) cc hle); obtain ⟨b5, b4⟩ := ask_blocks HL.out hx; obtain ⟨x0, x1, x2, x3, x4, x5, x6, x7, q5⟩ := ans_cells b5; obtain ⟨y0, y1, y2, y3, y4, y5, y6, y7, q4⟩ := ans_cells b4; have HX := Lib.hid (And.intro hx (And.intro b5 b4)); clear hx b5 b4)
    | (go_at_call 77; refine KO.out.mono ?_; rintro e w' ⟨rfl, rfl⟩))
  obtain ⟨hx, b5, b4⟩ := HX.out
  have b4r : (w'.setCell ⟨w.heap.size + 1 + 1, 0, none⟩ (.int .i64 (cc : Nat))).heap[w.heap.size + 1]? = some (.cells (ansCells 0 0 0 false (.slice none 0 0) (.slice none 0 0) (.slice none 0 0) (.slice none 0 0)) 59 (0, 0)) := by
    rw [blk_set_ne (by omega)]
    exact b4
  have k8 := ans_set b4r rfl (.int .i64 (cc : Nat)) (.slice none 0 0) (.slice none 0 0) (.slice none 0 0) (.slice none 0 0) (.int .i64 0) (.int .i64 0) (.bool false)
  have z0 := cell_of (i := 0) k8 rfl
  have z1 := cell_of (i := 1) k8 rfl
  have z2 := cell_of (i := 2) k8 rfl
  have z3 := cell_of (i := 3) k8 rfl
  have z4 := cell_of (i := 4) k8 rfl
  have z5 := cell_of (i := 5) k8 rfl
  have z6 := cell_of (i := 6) k8 rfl
  have z7 := cell_of (i := 7) k8 rfl
  refine bodyPost_ret (v := .agg #[.int .i64 (cc : Nat), .slice none 0 0, .slice none 0 0, .slice none 0 0, .slice none 0 0, .int .i64 0, .int .i64 0, .bool false]) (by simp [results, Tryz.results25, go_sem, z0, z1, z2, z3, z4, z5, z6, z7]) rfl ⟨_, rfl, ⟨_, _, _, _, rfl, AnsC.zero rfl rfl rfl rfl⟩, ?_⟩
  exact Next.mono (ask_end HL.out hx hBw ((((((((((Frm.refl _ _).setCell _ _ (fun _ => .inr rfl)).setCell _ _ (fun _ => .inl rfl)).setCell _ _ (fun _ => .inl rfl)).setCell _ _ (fun _ => .inl rfl)).setCell _ _ (fun _ => .inl rfl)).setCell _ _ (fun _ => .inl rfl)).setCell _ _ (fun _ => .inl rfl)).setCell _ _ (fun _ => .inl rfl)).setCell _ _ (fun _ => .inl rfl))) (by omega) HMD.out hf
set_option maxHeartbeats 4000000 in
set_option maxRecDepth 100000 in
theorem asked_3 {w0 w : World} {B b n m m2 : Nat} {lab : Nat → Option Lb} {eb : Nat → Addr} {D : Disk} (h : Live B w b lab eb l7 n m D) (h15 : Errs15 B w eb) (hBw : B ≤ w.heap.size) (hw : Frm (fun k => B ≤ k) w0 w) (hB : w0.heap.size ≤ B) (o : OpS) (v : Value) (ho : OpIn w0 o v) (ok : OpOk o) (hmm : m ≤ m2) (hmd : o.kind = 2 → m + o.data.length ≤ m2) (hf : DFit (n + 1) m2) (hk : o.kind = 3) : Calls Tryz.prog 25 #[dptr b, v] w fun e w' => ∃ av, e = .returned av ∧ AnsAt w' w.heap.size av (D.ask o).1 ∧ Next B w lab w' b eb l7 (n + 1) m2 (D.ask o).2 := by
  obtain ⟨A1, c1, A2, c2, A3, c3, rfl, hc1, hr1, hf2, hf3⟩ := ho
  have hask : D.ask o = ({ e := (D.sync o.name).1 }, (D.sync o.name).2) := by unfold Disk.ask; simp [hk]
  rw [hask, hk]
  obtain ⟨ov, hov⟩ : ∃ ov : Array Value, ov = #[.int .i64 3, .string o.name, .string o.to_, .slice A1 o.data.length c1, .int .i64 o.n, .slice A2 o.fails.length c2, .int .i64 o.cut, .slice A3 o.fs.length c3, .int .i64 o.fn] := ⟨_, rfl⟩
  have h0 : Live B (askW w ov) b lab eb l7 n m D := h.frm (askW_frm w ov)
  have h150 : Errs15 B (askW w ov) eb := h15.frm (askW_frm w ov) (fun _ h => h.elim)
  have kop := h0.syncW (n := n) (m := m) (hf.less hmm) o.name
  obtain ⟨cc, hcc⟩ : ∃ cc, cc = (D.sync o.name).1 := ⟨_, rfl⟩
  have hle : cc ≤ 15 := by rw [hcc]; exact sync_le D o.name
  rw [← hcc] at kop ⊢
  clear hcc hask
  generalize (D.sync o.name).2 = D' at *
  subst hov
  have KOP := Lib.hid kop
  have H15 := Lib.hid h150
  have HL := Lib.hid h
  clear kop h150 h0 h15 hf2 hf3 hr1
  unfold dptr at KOP ⊢
  clear hk hmd
  go_enter Tryz.func25, Tryz.ntmps25
  go_wp2_with (first
    | (go_at_call 14; refine KOP.out.mono ?_; rintro e w' ⟨rfl, hx⟩; have KO := Lib.hid (of_calls (H15.out.frm hx.choose_spec.2.1 (fun k hk => HL.out.base k hk)) cc hle); obtain ⟨b5, b4⟩ := ask_blocks HL.out hx; obtain ⟨x0, x1, x2, x3, x4, x5, x6, x7, q5⟩ := ans_cells b5; obtain ⟨y0, y1, y2, y3, y4, y5, y6, y7, q4⟩ := ans_cells b4; have HX := Lib.hid (And.intro hx (And.intro b5 b4)); clear hx b5 b4)
    | (go_at_call 77; refine KO.out.mono ?_; rintro e w' ⟨rfl, rfl⟩))
  obtain ⟨hx, b5, b4⟩ := HX.out
  have b4r : (w'.setCell ⟨w.heap.size + 1 + 1, 0, none⟩ (.int .i64 (cc : Nat))).heap[w.heap.size + 1]? = some (.cells (ansCells 0 0 0 false (.slice none 0 0) (.slice none 0 0) (.slice none 0 0) (.slice none 0 0)) 59 (0, 0)) := by
    rw [blk_set_ne (by omega)]
    exact b4
  have k8 := ans_set b4r rfl (.int .i64 (cc : Nat)) (.slice none 0 0) (.slice none 0 0) (.slice none 0 0) (.slice none 0 0) (.int .i64 0) (.int .i64 0) (.bool false)
  have z0 := cell_of (i := 0) k8 rfl
  have z1 := cell_of (i := 1) k8 rfl
  have z2 := cell_of (i := 2) k8 rfl
  have z3 := cell_of (i := 3) k8 rfl
  have z4 := cell_of (i := 4) k8 rfl
  have z5 := cell_of (i := 5) k8 rfl
  have z6 := cell_of (i := 6) k8 rfl
  have z7 := cell_of (i := 7) k8 rfl
  refine bodyPost_ret (v := .agg #[.int .i64 (cc : Nat), .slice none 0 0, .slice none 0 0, .slice none 0 0, .slice none 0 0, .int .i64 0, .int .i64 0, .bool false]) (by simp [results, Tryz.results25, go_sem, z0, z1, z2, z3, z4, z5, z6, z7]) rfl ⟨_, rfl, ⟨_, _, _, _, rfl, AnsC.zero rfl rfl rfl rfl⟩, ?_⟩
  exact Next.mono (ask_end HL.out hx hBw ((((((((((Frm.refl _ _).setCell _ _ (fun _ => .inr rfl)).setCell _ _ (fun _ => .inl rfl)).setCell _ _ (fun _ => .inl rfl)).setCell _ _ (fun _ => .inl rfl)).setCell _ _ (fun _ => .inl rfl)).setCell _ _ (fun _ => .inl rfl)).setCell _ _ (fun _ => .inl rfl)).setCell _ _ (fun _ => .inl rfl)).setCell _ _ (fun _ => .inl rfl))) (by omega) hmm hf
set_option maxHeartbeats 4000000 in
set_option maxRecDepth 100000 in
theorem asked_4 {w0 w : World} {B b n m m2 : Nat} {lab : Nat → Option Lb} {eb : Nat → Addr} {D : Disk} (h : Live B w b lab eb l7 n m D) (h15 : Errs15 B w eb) (hBw : B ≤ w.heap.size) (hw : Frm (fun k => B ≤ k) w0 w) (hB : w0.heap.size ≤ B) (o : OpS) (v : Value) (ho : OpIn w0 o v) (ok : OpOk o) (hmm : m ≤ m2) (hmd : o.kind = 2 → m + o.data.length ≤ m2) (hf : DFit (n + 1) m2) (hk : o.kind = 4) : Calls Tryz.prog 25 #[dptr b, v] w fun e w' => ∃ av, e = .returned av ∧ AnsAt w' w.heap.size av (D.ask o).1 ∧ Next B w lab w' b eb l7 (n + 1) m2 (D.ask o).2 := by
  obtain ⟨A1, c1, A2, c2, A3, c3, rfl, hc1, hr1, hf2, hf3⟩ := ho
  have hask : D.ask o = ({ e := (D.truncate o.name o.n).1 }, (D.truncate o.name o.n).2) := by unfold Disk.ask; simp [hk]
  rw [hask, hk]
  obtain ⟨ov, hov⟩ : ∃ ov : Array Value, ov = #[.int .i64 4, .string o.name, .string o.to_, .slice A1 o.data.length c1, .int .i64 o.n, .slice A2 o.fails.length c2, .int .i64 o.cut, .slice A3 o.fs.length c3, .int .i64 o.fn] := ⟨_, rfl⟩
  have h0 : Live B (askW w ov) b lab eb l7 n m D := h.frm (askW_frm w ov)
  have h150 : Errs15 B (askW w ov) eb := h15.frm (askW_frm w ov) (fun _ h => h.elim)
  have kop := h0.truncateW (n := n) (m := m) (hf.less hmm) o.name o.n ok.n
  obtain ⟨cc, hcc⟩ : ∃ cc, cc = (D.truncate o.name o.n).1 := ⟨_, rfl⟩
  have hle : cc ≤ 15 := by rw [hcc]; exact trunc_le D o.name o.n
  rw [← hcc] at kop ⊢
  clear hcc hask
  generalize (D.truncate o.name o.n).2 = D' at *
  subst hov
  have KOP := Lib.hid kop
  have H15 := Lib.hid h150
  have HL := Lib.hid h
  clear kop h150 h0 h15 hf2 hf3 hr1
  unfold dptr at KOP ⊢
  clear hk hmd
  go_enter Tryz.func25, Tryz.ntmps25
  go_wp2_with (first
    | (go_at_call 83; refine KOP.out.mono ?_; rintro e w' ⟨rfl, hx⟩; have KO := Lib.hid (of_calls (H15.out.frm hx.choose_spec.2.1 (fun k hk => HL.out.base k hk)) cc hle); obtain ⟨b5, b4⟩ := ask_blocks HL.out hx; obtain ⟨x0, x1, x2, x3, x4, x5, x6, x7, q5⟩ := ans_cells b5; obtain ⟨y0, y1, y2, y3, y4, y5, y6, y7, q4⟩ := ans_cells b4; have HX := Lib.hid (And.intro hx (And.intro b5 b4)); clear hx b5 b4)
    | (go_at_call 77; refine KO.out.mono ?_; rintro e w' ⟨rfl, rfl⟩))
  obtain ⟨hx, b5, b4⟩ := HX.out
  have b4r : (w'.setCell ⟨w.heap.size + 1 + 1, 0, none⟩ (.int .i64 (cc : Nat))).heap[w.heap.size + 1]? = some (.cells (ansCells 0 0 0 false (.slice none 0 0) (.slice none 0 0) (.slice none 0 0) (.slice none 0 0)) 59 (0, 0)) := by
    rw [blk_set_ne (by omega)]
    exact b4
  have k8 := ans_set b4r rfl (.int .i64 (cc : Nat)) (.slice none 0 0) (.slice none 0 0) (.slice none 0 0) (.slice none 0 0) (.int .i64 0) (.int .i64 0) (.bool false)
  have z0 := cell_of (i := 0) k8 rfl
  have z1 := cell_of (i := 1) k8 rfl
  have z2 := cell_of (i := 2) k8 rfl
  have z3 := cell_of (i := 3) k8 rfl
  have z4 := cell_of (i := 4) k8 rfl
  have z5 := cell_of (i := 5) k8 rfl
  have z6 := cell_of (i := 6) k8 rfl
  have z7 := cell_of (i := 7) k8 rfl
  refine bodyPost_ret (v := .agg #[.int .i64 (cc : Nat), .slice none 0 0, .slice none 0 0, .slice none 0 0, .slice none 0 0, .int .i64 0, .int .i64 0, .bool false]) (by simp [results, Tryz.results25, go_sem, z0, z1, z2, z3, z4, z5, z6, z7]) rfl ⟨_, rfl, ⟨_, _, _, _, rfl, AnsC.zero rfl rfl rfl rfl⟩, ?_⟩
  exact Next.mono (ask_end HL.out hx hBw ((((((((((Frm.refl _ _).setCell _ _ (fun _ => .inr rfl)).setCell _ _ (fun _ => .inl rfl)).setCell _ _ (fun _ => .inl rfl)).setCell _ _ (fun _ => .inl rfl)).setCell _ _ (fun _ => .inl rfl)).setCell _ _ (fun _ => .inl rfl)).setCell _ _ (fun _ => .inl rfl)).setCell _ _ (fun _ => .inl rfl)).setCell _ _ (fun _ => .inl rfl))) (by omega) hmm hf
set_option maxHeartbeats 4000000 in
set_option maxRecDepth 100000 in
theorem asked_5 {w0 w : World} {B b n m m2 : Nat} {lab : Nat → Option Lb} {eb : Nat → Addr} {D : Disk} (h : Live B w b lab eb l7 n m D) (h15 : Errs15 B w eb) (hBw : B ≤ w.heap.size) (hw : Frm (fun k => B ≤ k) w0 w) (hB : w0.heap.size ≤ B) (o : OpS) (v : Value) (ho : OpIn w0 o v) (ok : OpOk o) (hmm : m ≤ m2) (hmd : o.kind = 2 → m + o.data.length ≤ m2) (hf : DFit (n + 1) m2) (hk : o.kind = 5) : Calls Tryz.prog 25 #[dptr b, v] w fun e w' => ∃ av, e = .returned av ∧ AnsAt w' w.heap.size av (D.ask o).1 ∧ Next B w lab w' b eb l7 (n + 1) m2 (D.ask o).2 := by
  obtain ⟨A1, c1, A2, c2, A3, c3, rfl, hc1, hr1, hf2, hf3⟩ := ho
  have hask : D.ask o = ({ e := (D.rename o.name o.to_).1 }, (D.rename o.name o.to_).2) := by unfold Disk.ask; simp [hk]
  rw [hask, hk]
  obtain ⟨ov, hov⟩ : ∃ ov : Array Value, ov = #[.int .i64 5, .string o.name, .string o.to_, .slice A1 o.data.length c1, .int .i64 o.n, .slice A2 o.fails.length c2, .int .i64 o.cut, .slice A3 o.fs.length c3, .int .i64 o.fn] := ⟨_, rfl⟩
  have h0 : Live B (askW w ov) b lab eb l7 n m D := h.frm (askW_frm w ov)
  have h150 : Errs15 B (askW w ov) eb := h15.frm (askW_frm w ov) (fun _ h => h.elim)
  have kop := h0.renameW (n := n) (m := m) (hf.less hmm) o.name o.to_ ok.to_
  obtain ⟨cc, hcc⟩ : ∃ cc, cc = (D.rename o.name o.to_).1 := ⟨_, rfl⟩
  have hle : cc ≤ 15 := by rw [hcc]; exact rename_le D o.name o.to_
  rw [← hcc] at kop ⊢
  clear hcc hask
  generalize (D.rename o.name o.to_).2 = D' at *
  subst hov
  have KOP := Lib.hid kop
  have H15 := Lib.hid h150
  have HL := Lib.hid h
  clear kop h150 h0 h15 hf2 hf3 hr1
  unfold dptr at KOP ⊢
  clear hk hmd
  go_enter Tryz.func25, Tryz.ntmps25
  go_wp2_with (first
    | (go_at_call 84; refine KOP.out.mono ?_; rintro e w' ⟨rfl, hx⟩; have KO := Lib.hid (of_calls (H15.out.frm hx.choose_spec.2.1 (fun k hk => HL.out.base k hk)) cc hle); obtain ⟨b5, b4⟩ := ask_blocks HL.out hx; obtain ⟨x0, x1, x2, x3, x4, x5, x6, x7, q5⟩ := ans_cells b5; obtain ⟨y0, y1, y2, y3, y4, y5, y6, y7, q4⟩ := ans_cells b4; have HX := Lib.hid (And.intro hx (And.intro b5 b4)); clear hx b5 b4)
    | (go_at_call 77; refine KO.out.mono ?_; rintro e w' ⟨rfl, rfl⟩))
  obtain ⟨hx, b5, b4⟩ := HX.out
  have b4r : (w'.setCell ⟨w.heap.size + 1 + 1, 0, none⟩ (.int .i64 (cc : Nat))).heap[w.heap.size + 1]? = some (.cells (ansCells 0 0 0 false (.slice none 0 0) (.slice none 0 0) (.slice none 0 0) (.slice none 0 0)) 59 (0, 0)) := by
    rw [blk_set_ne (by omega)]
    exact b4
  have k8 := ans_set b4r rfl (.int .i64 (cc : Nat)) (.slice none 0 0) (.slice none 0 0) (.slice none 0 0) (.slice none 0 0) (.int .i64 0) (.int .i64 0) (.bool false)
  have z0 := cell_of (i := 0) k8 rfl
  have z1 := cell_of (i := 1) k8 rfl
  have z2 := cell_of (i := 2) k8 rfl
  have z3 := cell_of (i := 3) k8 rfl
  have z4 := cell_of (i := 4) k8 rfl
  have z5 := cell_of (i := 5) k8 rfl
  have z6 := cell_of (i := 6) k8 rfl
  have z7 := cell_of (i := 7) k8 rfl
  refine bodyPost_ret (v := .agg #[.int .i64 (cc : Nat), .slice none 0 0, .slice none 0 0, .slice none 0 0, .slice none 0 0, .int .i64 0, .int .i64 0, .bool false]) (by simp [results, Tryz.results25, go_sem, z0, z1, z2, z3, z4, z5, z6, z7]) rfl ⟨_, rfl, ⟨_, _, _, _, rfl, AnsC.zero rfl rfl rfl rfl⟩, ?_⟩
  exact Next.mono (ask_end HL.out hx hBw ((((((((((Frm.refl _ _).setCell _ _ (fun _ => .inr rfl)).setCell _ _ (fun _ => .inl rfl)).setCell _ _ (fun _ => .inl rfl)).setCell _ _ (fun _ => .inl rfl)).setCell _ _ (fun _ => .inl rfl)).setCell _ _ (fun _ => .inl rfl)).setCell _ _ (fun _ => .inl rfl)).setCell _ _ (fun _ => .inl rfl)).setCell _ _ (fun _ => .inl rfl))) (by omega) hmm hf
set_option maxHeartbeats 4000000 in
set_option maxRecDepth 100000 in
theorem asked_6 {w0 w : World} {B b n m m2 : Nat} {lab : Nat → Option Lb} {eb : Nat → Addr} {D : Disk} (h : Live B w b lab eb l7 n m D) (h15 : Errs15 B w eb) (hBw : B ≤ w.heap.size) (hw : Frm (fun k => B ≤ k) w0 w) (hB : w0.heap.size ≤ B) (o : OpS) (v : Value) (ho : OpIn w0 o v) (ok : OpOk o) (hmm : m ≤ m2) (hmd : o.kind = 2 → m + o.data.length ≤ m2) (hf : DFit (n + 1) m2) (hk : o.kind = 6) : Calls Tryz.prog 25 #[dptr b, v] w fun e w' => ∃ av, e = .returned av ∧ AnsAt w' w.heap.size av (D.ask o).1 ∧ Next B w lab w' b eb l7 (n + 1) m2 (D.ask o).2 := by
  obtain ⟨A1, c1, A2, c2, A3, c3, rfl, hc1, hr1, hf2, hf3⟩ := ho
  have hask : D.ask o = ({ e := (D.remove o.name).1 }, (D.remove o.name).2) := by unfold Disk.ask; simp [hk]
  rw [hask, hk]
  obtain ⟨ov, hov⟩ : ∃ ov : Array Value, ov = #[.int .i64 6, .string o.name, .string o.to_, .slice A1 o.data.length c1, .int .i64 o.n, .slice A2 o.fails.length c2, .int .i64 o.cut, .slice A3 o.fs.length c3, .int .i64 o.fn] := ⟨_, rfl⟩
  have h0 : Live B (askW w ov) b lab eb l7 n m D := h.frm (askW_frm w ov)
  have h150 : Errs15 B (askW w ov) eb := h15.frm (askW_frm w ov) (fun _ h => h.elim)
  have kop := h0.removeW (n := n) (m := m) (hf.less hmm) o.name
  obtain ⟨cc, hcc⟩ : ∃ cc, cc = (D.remove o.name).1 := ⟨_, rfl⟩
  have hle : cc ≤ 15 := by rw [hcc]; exact remove_le D o.name
  rw [← hcc] at kop ⊢
  clear hcc hask
  generalize (D.remove o.name).2 = D' at *
  subst hov
  have KOP := Lib.hid kop
  have H15 := Lib.hid h150
  have HL := Lib.hid h
  clear kop h150 h0 h15 hf2 hf3 hr1
  unfold dptr at KOP ⊢
  clear hk hmd
  go_enter Tryz.func25, Tryz.ntmps25
  go_wp2_with (first
    | (go_at_call 85; refine KOP.out.mono ?_; rintro e w' ⟨rfl, hx⟩; have KO := Lib.hid (of_calls (H15.out.frm hx.choose_spec.2.1 (fun k hk => HL.out.base k hk)) cc hle); obtain ⟨b5, b4⟩ := ask_blocks HL.out hx; obtain ⟨x0, x1, x2, x3, x4, x5, x6, x7, q5⟩ := ans_cells b5; obtain ⟨y0, y1, y2, y3, y4, y5, y6, y7, q4⟩ := ans_cells b4; have HX := Lib.hid (And.intro hx (And.intro b5 b4)); clear hx b5 b4)
    | (go_at_call 77; refine KO.out.mono ?_; rintro e w' ⟨rfl, rfl⟩))
  obtain ⟨hx, b5, b4⟩ := HX.out
  have b4r : (w'.setCell ⟨w.heap.size + 1 + 1, 0, none⟩ (.int .i64 (cc : Nat))).heap[w.heap.size + 1]? = some (.cells (ansCells 0 0 0 false (.slice none 0 0) (.slice none 0 0) (.slice none 0 0) (.slice none 0 0)) 59 (0, 0)) := by
    rw [blk_set_ne (by omega)]
    exact b4
  have k8 := ans_set b4r rfl (.int .i64 (cc : Nat)) (.slice none 0 0) (.slice none 0 0) (.slice none 0 0) (.slice none 0 0) (.int .i64 0) (.int .i64 0) (.bool false)
  have z0 := cell_of (i := 0) k8 rfl
  have z1 := cell_of (i := 1) k8 rfl
  have z2 := cell_of (i := 2) k8 rfl
  have z3 := cell_of (i := 3) k8 rfl
  have z4 := cell_of (i := 4) k8 rfl
  have z5 := cell_of (i := 5) k8 rfl
  have z6 := cell_of (i := 6) k8 rfl
  have z7 := cell_of (i := 7) k8 rfl
  refine bodyPost_ret (v := .agg #[.int .i64 (cc : Nat), .slice none 0 0, .slice none 0 0, .slice none 0 0, .slice none 0 0, .int .i64 0, .int .i64 0, .bool false]) (by simp [results, Tryz.results25, go_sem, z0, z1, z2, z3, z4, z5, z6, z7]) rfl ⟨_, rfl, ⟨_, _, _, _, rfl, AnsC.zero rfl rfl rfl rfl⟩, ?_⟩
  exact Next.mono (ask_end HL.out hx hBw ((((((((((Frm.refl _ _).setCell _ _ (fun _ => .inr rfl)).setCell _ _ (fun _ => .inl rfl)).setCell _ _ (fun _ => .inl rfl)).setCell _ _ (fun _ => .inl rfl)).setCell _ _ (fun _ => .inl rfl)).setCell _ _ (fun _ => .inl rfl)).setCell _ _ (fun _ => .inl rfl)).setCell _ _ (fun _ => .inl rfl)).setCell _ _ (fun _ => .inl rfl))) (by omega) hmm hf
set_option maxHeartbeats 4000000 in
set_option maxRecDepth 100000 in
theorem asked_7 {w0 w : World} {B b n m m2 : Nat} {lab : Nat → Option Lb} {eb : Nat → Addr} {D : Disk} (h : Live B w b lab eb l7 n m D) (h15 : Errs15 B w eb) (hBw : B ≤ w.heap.size) (hw : Frm (fun k => B ≤ k) w0 w) (hB : w0.heap.size ≤ B) (o : OpS) (v : Value) (ho : OpIn w0 o v) (ok : OpOk o) (hmm : m ≤ m2) (hmd : o.kind = 2 → m + o.data.length ≤ m2) (hf : DFit (n + 1) m2) (hk : o.kind = 7) : Calls Tryz.prog 25 #[dptr b, v] w fun e w' => ∃ av, e = .returned av ∧ AnsAt w' w.heap.size av (D.ask o).1 ∧ Next B w lab w' b eb l7 (n + 1) m2 (D.ask o).2 := by
  obtain ⟨A1, c1, A2, c2, A3, c3, rfl, hc1, hr1, hf2, hf3⟩ := ho
  have hask : D.ask o = ({ e := (D.syncNames).1 }, (D.syncNames).2) := by unfold Disk.ask; simp [hk]
  rw [hask, hk]
  obtain ⟨ov, hov⟩ : ∃ ov : Array Value, ov = #[.int .i64 7, .string o.name, .string o.to_, .slice A1 o.data.length c1, .int .i64 o.n, .slice A2 o.fails.length c2, .int .i64 o.cut, .slice A3 o.fs.length c3, .int .i64 o.fn] := ⟨_, rfl⟩
  have h0 : Live B (askW w ov) b lab eb l7 n m D := h.frm (askW_frm w ov)
  have h150 : Errs15 B (askW w ov) eb := h15.frm (askW_frm w ov) (fun _ h => h.elim)
  have kop := h0.syncNamesW (n := n) (m := m) (hf.less hmm)
  obtain ⟨cc, hcc⟩ : ∃ cc, cc = (D.syncNames).1 := ⟨_, rfl⟩
  have hle : cc ≤ 15 := by rw [hcc]; exact syncNames_le D
  rw [← hcc] at kop ⊢
  clear hcc hask
  generalize (D.syncNames).2 = D' at *
  subst hov
  have KOP := Lib.hid kop
  have H15 := Lib.hid h150
  have HL := Lib.hid h
  clear kop h150 h0 h15 hf2 hf3 hr1
  unfold dptr at KOP ⊢
  clear hk hmd
  go_enter Tryz.func25, Tryz.ntmps25
  go_wp2_with (first
    | (go_at_call 15; refine KOP.out.mono ?_; rintro e w' ⟨rfl, hx⟩; have KO := Lib.hid (of_calls (H15.out.frm hx.choose_spec.2.1 (fun k hk => HL.out.base k hk)) cc hle); obtain ⟨b5, b4⟩ := ask_blocks HL.out hx; obtain ⟨x0, x1, x2, x3, x4, x5, x6, x7, q5⟩ := ans_cells b5; obtain ⟨y0, y1, y2, y3, y4, y5, y6, y7, q4⟩ := ans_cells b4; have HX := Lib.hid (And.intro hx (And.intro b5 b4)); clear hx b5 b4)
    | (go_at_call 77; refine KO.out.mono ?_; rintro e w' ⟨rfl, rfl⟩))
  obtain ⟨hx, b5, b4⟩ := HX.out
  have b4r : (w'.setCell ⟨w.heap.size + 1 + 1, 0, none⟩ (.int .i64 (cc : Nat))).heap[w.heap.size + 1]? = some (.cells (ansCells 0 0 0 false (.slice none 0 0) (.slice none 0 0) (.slice none 0 0) (.slice none 0 0)) 59 (0, 0)) := by
    rw [blk_set_ne (by omega)]
    exact b4
  have k8 := ans_set b4r rfl (.int .i64 (cc : Nat)) (.slice none 0 0) (.slice none 0 0) (.slice none 0 0) (.slice none 0 0) (.int .i64 0) (.int .i64 0) (.bool false)
  have z0 := cell_of (i := 0) k8 rfl
  have z1 := cell_of (i := 1) k8 rfl
  have z2 := cell_of (i := 2) k8 rfl
  have z3 := cell_of (i := 3) k8 rfl
  have z4 := cell_of (i := 4) k8 rfl
  have z5 := cell_of (i := 5) k8 rfl
  have z6 := cell_of (i := 6) k8 rfl
  have z7 := cell_of (i := 7) k8 rfl
  refine bodyPost_ret (v := .agg #[.int .i64 (cc : Nat), .slice none 0 0, .slice none 0 0, .slice none 0 0, .slice none 0 0, .int .i64 0, .int .i64 0, .bool false]) (by simp [results, Tryz.results25, go_sem, z0, z1, z2, z3, z4, z5, z6, z7]) rfl ⟨_, rfl, ⟨_, _, _, _, rfl, AnsC.zero rfl rfl rfl rfl⟩, ?_⟩
  exact Next.mono (ask_end HL.out hx hBw ((((((((((Frm.refl _ _).setCell _ _ (fun _ => .inr rfl)).setCell _ _ (fun _ => .inl rfl)).setCell _ _ (fun _ => .inl rfl)).setCell _ _ (fun _ => .inl rfl)).setCell _ _ (fun _ => .inl rfl)).setCell _ _ (fun _ => .inl rfl)).setCell _ _ (fun _ => .inl rfl)).setCell _ _ (fun _ => .inl rfl)).setCell _ _ (fun _ => .inl rfl))) (by omega) hmm hf
set_option maxHeartbeats 4000000 in
set_option maxRecDepth 100000 in
theorem asked_8 {w0 w : World} {B b n m m2 : Nat} {lab : Nat → Option Lb} {eb : Nat → Addr} {D : Disk} (h : Live B w b lab eb l7 n m D) (h15 : Errs15 B w eb) (hBw : B ≤ w.heap.size) (hw : Frm (fun k => B ≤ k) w0 w) (hB : w0.heap.size ≤ B) (o : OpS) (v : Value) (ho : OpIn w0 o v) (ok : OpOk o) (hmm : m ≤ m2) (hmd : o.kind = 2 → m + o.data.length ≤ m2) (hf : DFit (n + 1) m2) (hk : o.kind = 8) : Calls Tryz.prog 25 #[dptr b, v] w fun e w' => ∃ av, e = .returned av ∧ AnsAt w' w.heap.size av (D.ask o).1 ∧ Next B w lab w' b eb l7 (n + 1) m2 (D.ask o).2 := by
  obtain ⟨A1, c1, A2, c2, A3, c3, rfl, hc1, hr1, hf2, hf3⟩ := ho
  have hask : D.ask o = ({ e := (D.read o.name).1, data := (D.read o.name).2.1, bad := (D.read o.name).2.2 }, D) := by unfold Disk.ask; simp [hk]
  rw [hask, hk]
  obtain ⟨ov, hov⟩ : ∃ ov : Array Value, ov = #[.int .i64 8, .string o.name, .string o.to_, .slice A1 o.data.length c1, .int .i64 o.n, .slice A2 o.fails.length c2, .int .i64 o.cut, .slice A3 o.fs.length c3, .int .i64 o.fn] := ⟨_, rfl⟩
  have h0 : Live B (askW w ov) b lab eb l7 n m D := h.frm (askW_frm w ov)
  have h150 : Errs15 B (askW w ov) eb := h15.frm (askW_frm w ov) (fun _ h => h.elim)
  skip
  have kop := h0.read o.name
  obtain ⟨cc, hcc⟩ : ∃ cc, cc = (D.read o.name).1 := ⟨_, rfl⟩
  have hle : cc ≤ 15 := by rw [hcc]; exact read_le D o.name
  rw [← hcc] at kop ⊢
  have hsz0 : w.heap.size ≤ (askW w ov).heap.size := (askW_frm w ov).size
  clear hask hcc
  subst hov
  have KOP := Lib.hid kop
  have H0 := Lib.hid h0
  have H15 := Lib.hid h150
  have HL := Lib.hid h
  have HSZ := Lib.hid hsz0
  clear kop h150 h0 h15 hf2 hf3 hr1 hsz0
  unfold dptr at KOP ⊢
  clear hk
  go_enter Tryz.func25, Tryz.ntmps25
  go_wp2_with (first
    | (go_at_call 45; refine KOP.out.mono ?_; rintro e w' ⟨dv, bv, rfl, hd, hb, hf1⟩; obtain ⟨pd, cd, rfl⟩ := own_form hd; obtain ⟨pb, cb, rfl⟩ := own_form hb; have HR := Lib.hid (And.intro hd hb); clear hd hb; have hx := H0.out.stay hf1; have KO := Lib.hid (of_calls (H15.out.frm hf1 (fun k hk => hk.elim)) cc hle); obtain ⟨b5, b4⟩ := ask_blocks HL.out hx; obtain ⟨x0, x1, x2, x3, x4, x5, x6, x7, q5⟩ := ans_cells b5; obtain ⟨y0, y1, y2, y3, y4, y5, y6, y7, q4⟩ := ans_cells b4; have HX := Lib.hid (And.intro hx (And.intro b5 b4)); clear hx b5 b4)
    | (go_at_call 77; refine KO.out.mono ?_; rintro e w' ⟨rfl, rfl⟩))
  obtain ⟨hR1, hR2⟩ := HR.out
  obtain ⟨hx, b5, b4⟩ := HX.out
  have b4r : (((w'.setCell ⟨w.heap.size + 1 + 1, 1, none⟩ (.slice pd (D.read o.name).2.1.length cd)).setCell ⟨w.heap.size + 1 + 1, 2, none⟩ (.slice pb (D.read o.name).2.2.length cb)).setCell ⟨w.heap.size + 1 + 1, 0, none⟩ (.int .i64 (cc : Nat))).heap[w.heap.size + 1]? = some (.cells (ansCells 0 0 0 false (.slice none 0 0) (.slice none 0 0) (.slice none 0 0) (.slice none 0 0)) 59 (0, 0)) := by
    rw [blk_set_ne (by omega)]
    rw [blk_set_ne (by omega)]
    rw [blk_set_ne (by omega)]
    exact b4
  have k8 := ans_set b4r rfl (.int .i64 (cc : Nat)) (.slice pd (D.read o.name).2.1.length cd) (.slice pb (D.read o.name).2.2.length cb) (.slice none 0 0) (.slice none 0 0) (.int .i64 0) (.int .i64 0) (.bool false)
  have z0 := cell_of (i := 0) k8 rfl
  have z1 := cell_of (i := 1) k8 rfl
  have z2 := cell_of (i := 2) k8 rfl
  have z3 := cell_of (i := 3) k8 rfl
  have z4 := cell_of (i := 4) k8 rfl
  have z5 := cell_of (i := 5) k8 rfl
  have z6 := cell_of (i := 6) k8 rfl
  have z7 := cell_of (i := 7) k8 rfl
  refine bodyPost_ret (v := .agg #[.int .i64 (cc : Nat), .slice pd (D.read o.name).2.1.length cd, .slice pb (D.read o.name).2.2.length cb, .slice none 0 0, .slice none 0 0, .int .i64 0, .int .i64 0, .bool false]) (by simp [results, Tryz.results25, go_sem, z0, z1, z2, z3, z4, z5, z6, z7]) rfl ⟨_, rfl, ⟨_, _, _, _, rfl, (AnsC.frm (AnsC.frm ⟨own_weaken_ hR1 HSZ.out, own_weaken_ hR2 HSZ.out, ⟨rfl, .inl ⟨rfl, rfl⟩⟩, Kd.R_nil _ _ _ _ _⟩ b5 ((((Frm.refl (fun k => k = w.heap.size + 1 + 1) w').setCell _ _ (fun _ => rfl)).setCell _ _ (fun _ => rfl)).setCell _ _ (fun _ => rfl))) b4r (((((((((Frm.refl (fun k => k = w.heap.size + 1) _).setCell _ _ (fun _ => rfl)).setCell _ _ (fun _ => rfl)).setCell _ _ (fun _ => rfl)).setCell _ _ (fun _ => rfl)).setCell _ _ (fun _ => rfl)).setCell _ _ (fun _ => rfl)).setCell _ _ (fun _ => rfl)).setCell _ _ (fun _ => rfl)))⟩, ?_⟩
  exact Next.mono (ask_end HL.out hx hBw ((((((((((((Frm.refl _ _).setCell _ _ (fun _ => .inr rfl)).setCell _ _ (fun _ => .inr rfl)).setCell _ _ (fun _ => .inr rfl)).setCell _ _ (fun _ => .inl rfl)).setCell _ _ (fun _ => .inl rfl)).setCell _ _ (fun _ => .inl rfl)).setCell _ _ (fun _ => .inl rfl)).setCell _ _ (fun _ => .inl rfl)).setCell _ _ (fun _ => .inl rfl)).setCell _ _ (fun _ => .inl rfl)).setCell _ _ (fun _ => .inl rfl))) (by omega) hmm hf
set_option maxHeartbeats 4000000 in
set_option maxRecDepth 100000 in
theorem asked_9 {w0 w : World} {B b n m m2 : Nat} {lab : Nat → Option Lb} {eb : Nat → Addr} {D : Disk} (h : Live B w b lab eb l7 n m D) (h15 : Errs15 B w eb) (hBw : B ≤ w.heap.size) (hw : Frm (fun k => B ≤ k) w0 w) (hB : w0.heap.size ≤ B) (o : OpS) (v : Value) (ho : OpIn w0 o v) (ok : OpOk o) (hmm : m ≤ m2) (hmd : o.kind = 2 → m + o.data.length ≤ m2) (hf : DFit (n + 1) m2) (hk : o.kind = 9) : Calls Tryz.prog 25 #[dptr b, v] w fun e w' => ∃ av, e = .returned av ∧ AnsAt w' w.heap.size av (D.ask o).1 ∧ Next B w lab w' b eb l7 (n + 1) m2 (D.ask o).2 := by
  obtain ⟨A1, c1, A2, c2, A3, c3, rfl, hc1, hr1, hf2, hf3⟩ := ho
  have hask : D.ask o = ({ e := D.names.1, strs := D.names.2 }, D) := by unfold Disk.ask; simp [hk]
  rw [hask, hk]
  obtain ⟨ov, hov⟩ : ∃ ov : Array Value, ov = #[.int .i64 9, .string o.name, .string o.to_, .slice A1 o.data.length c1, .int .i64 o.n, .slice A2 o.fails.length c2, .int .i64 o.cut, .slice A3 o.fs.length c3, .int .i64 o.fn] := ⟨_, rfl⟩
  have h0 : Live B (askW w ov) b lab eb l7 n m D := h.frm (askW_frm w ov)
  have h150 : Errs15 B (askW w ov) eb := h15.frm (askW_frm w ov) (fun _ h => h.elim)
  skip
  have kop := h0.names
  obtain ⟨cc, hcc⟩ : ∃ cc, cc = D.names.1 := ⟨_, rfl⟩
  have hle : cc ≤ 15 := by rw [hcc]; exact names_le D
  rw [← hcc] at kop ⊢
  have hsz0 : w.heap.size ≤ (askW w ov).heap.size := (askW_frm w ov).size
  clear hask hcc
  subst hov
  have KOP := Lib.hid kop
  have H0 := Lib.hid h0
  have H15 := Lib.hid h150
  have HL := Lib.hid h
  have HSZ := Lib.hid hsz0
  clear kop h150 h0 h15 hf2 hf3 hr1 hsz0
  unfold dptr at KOP ⊢
  clear hk
  go_enter Tryz.func25, Tryz.ntmps25
  go_wp2_with (first
    | (go_at_call 40; refine KOP.out.mono ?_; rintro e w' ⟨v, rfl, hd, hf1⟩; obtain ⟨pd, cd, rfl⟩ := own_form hd; have HR := Lib.hid (And.intro hd True.intro); clear hd; have hx := H0.out.stay hf1; have KO := Lib.hid (of_calls (H15.out.frm hf1 (fun k hk => hk.elim)) cc hle); obtain ⟨b5, b4⟩ := ask_blocks HL.out hx; obtain ⟨x0, x1, x2, x3, x4, x5, x6, x7, q5⟩ := ans_cells b5; obtain ⟨y0, y1, y2, y3, y4, y5, y6, y7, q4⟩ := ans_cells b4; have HX := Lib.hid (And.intro hx (And.intro b5 b4)); clear hx b5 b4)
    | (go_at_call 77; refine KO.out.mono ?_; rintro e w' ⟨rfl, rfl⟩))
  obtain ⟨hR1, hR2⟩ := HR.out
  obtain ⟨hx, b5, b4⟩ := HX.out
  have b4r : ((w'.setCell ⟨w.heap.size + 1 + 1, 3, none⟩ (.slice pd D.names.2.length cd)).setCell ⟨w.heap.size + 1 + 1, 0, none⟩ (.int .i64 (cc : Nat))).heap[w.heap.size + 1]? = some (.cells (ansCells 0 0 0 false (.slice none 0 0) (.slice none 0 0) (.slice none 0 0) (.slice none 0 0)) 59 (0, 0)) := by
    rw [blk_set_ne (by omega)]
    rw [blk_set_ne (by omega)]
    exact b4
  have k8 := ans_set b4r rfl (.int .i64 (cc : Nat)) (.slice none 0 0) (.slice none 0 0) (.slice pd D.names.2.length cd) (.slice none 0 0) (.int .i64 0) (.int .i64 0) (.bool false)
  have z0 := cell_of (i := 0) k8 rfl
  have z1 := cell_of (i := 1) k8 rfl
  have z2 := cell_of (i := 2) k8 rfl
  have z3 := cell_of (i := 3) k8 rfl
  have z4 := cell_of (i := 4) k8 rfl
  have z5 := cell_of (i := 5) k8 rfl
  have z6 := cell_of (i := 6) k8 rfl
  have z7 := cell_of (i := 7) k8 rfl
  refine bodyPost_ret (v := .agg #[.int .i64 (cc : Nat), .slice none 0 0, .slice none 0 0, .slice pd D.names.2.length cd, .slice none 0 0, .int .i64 0, .int .i64 0, .bool false]) (by simp [results, Tryz.results25, go_sem, z0, z1, z2, z3, z4, z5, z6, z7]) rfl ⟨_, rfl, ⟨_, _, _, _, rfl, (AnsC.frm (AnsC.frm ⟨⟨rfl, .inl ⟨rfl, rfl⟩⟩, ⟨rfl, .inl ⟨rfl, rfl⟩⟩, own_weaken_ hR1 HSZ.out, Kd.R_nil _ _ _ _ _⟩ b5 (((Frm.refl (fun k => k = w.heap.size + 1 + 1) w').setCell _ _ (fun _ => rfl)).setCell _ _ (fun _ => rfl))) b4r (((((((((Frm.refl (fun k => k = w.heap.size + 1) _).setCell _ _ (fun _ => rfl)).setCell _ _ (fun _ => rfl)).setCell _ _ (fun _ => rfl)).setCell _ _ (fun _ => rfl)).setCell _ _ (fun _ => rfl)).setCell _ _ (fun _ => rfl)).setCell _ _ (fun _ => rfl)).setCell _ _ (fun _ => rfl)))⟩, ?_⟩
  exact Next.mono (ask_end HL.out hx hBw (((((((((((Frm.refl _ _).setCell _ _ (fun _ => .inr rfl)).setCell _ _ (fun _ => .inr rfl)).setCell _ _ (fun _ => .inl rfl)).setCell _ _ (fun _ => .inl rfl)).setCell _ _ (fun _ => .inl rfl)).setCell _ _ (fun _ => .inl rfl)).setCell _ _ (fun _ => .inl rfl)).setCell _ _ (fun _ => .inl rfl)).setCell _ _ (fun _ => .inl rfl)).setCell _ _ (fun _ => .inl rfl))) (by omega) hmm hf
set_option maxHeartbeats 4000000 in
set_option maxRecDepth 100000 in
theorem asked_10 {w0 w : World} {B b n m m2 : Nat} {lab : Nat → Option Lb} {eb : Nat → Addr} {D : Disk} (h : Live B w b lab eb l7 n m D) (h15 : Errs15 B w eb) (hBw : B ≤ w.heap.size) (hw : Frm (fun k => B ≤ k) w0 w) (hB : w0.heap.size ≤ B) (o : OpS) (v : Value) (ho : OpIn w0 o v) (ok : OpOk o) (hmm : m ≤ m2) (hmd : o.kind = 2 → m + o.data.length ≤ m2) (hf : DFit (n + 1) m2) (hk : o.kind = 10) : Calls Tryz.prog 25 #[dptr b, v] w fun e w' => ∃ av, e = .returned av ∧ AnsAt w' w.heap.size av (D.ask o).1 ∧ Next B w lab w' b eb l7 (n + 1) m2 (D.ask o).2 := by
  obtain ⟨A1, c1, A2, c2, A3, c3, rfl, hc1, hr1, hf2, hf3⟩ := ho
  have hask : D.ask o = ({ img := D.seenImg }, D) := by unfold Disk.ask; simp [hk]
  rw [hask, hk]
  obtain ⟨ov, hov⟩ : ∃ ov : Array Value, ov = #[.int .i64 10, .string o.name, .string o.to_, .slice A1 o.data.length c1, .int .i64 o.n, .slice A2 o.fails.length c2, .int .i64 o.cut, .slice A3 o.fs.length c3, .int .i64 o.fn] := ⟨_, rfl⟩
  have h0 : Live B (askW w ov) b lab eb l7 n m D := h.frm (askW_frm w ov)
  have h150 : Errs15 B (askW w ov) eb := h15.frm (askW_frm w ov) (fun _ h => h.elim)
  skip
  have kop := h0.seen
  have hsz0 : w.heap.size ≤ (askW w ov).heap.size := (askW_frm w ov).size
  clear hask
  subst hov
  have KOP := Lib.hid kop
  have H0 := Lib.hid h0
  have H15 := Lib.hid h150
  have HL := Lib.hid h
  have HSZ := Lib.hid hsz0
  clear kop h150 h0 h15 hf2 hf3 hr1 hsz0
  unfold dptr at KOP ⊢
  clear hk
  go_enter Tryz.func25, Tryz.ntmps25
  go_wp2_with (first
    | (go_at_call 29; refine KOP.out.mono ?_; rintro e w' ⟨v, rfl, ⟨pi, ci, rfl, hd⟩, hf1⟩; have HR := Lib.hid (And.intro hd True.intro); clear hd; have hx := H0.out.stay hf1; obtain ⟨b5, b4⟩ := ask_blocks HL.out hx; obtain ⟨x0, x1, x2, x3, x4, x5, x6, x7, q5⟩ := ans_cells b5; obtain ⟨y0, y1, y2, y3, y4, y5, y6, y7, q4⟩ := ans_cells b4; have HX := Lib.hid (And.intro hx (And.intro b5 b4)); clear hx b5 b4))
  obtain ⟨hR1, hR2⟩ := HR.out
  obtain ⟨hx, b5, b4⟩ := HX.out
  have b4r : (w'.setCell ⟨w.heap.size + 1 + 1, 4, none⟩ (.slice pi (D.seenImg).length ci)).heap[w.heap.size + 1]? = some (.cells (ansCells 0 0 0 false (.slice none 0 0) (.slice none 0 0) (.slice none 0 0) (.slice none 0 0)) 59 (0, 0)) := by
    rw [blk_set_ne (by omega)]
    exact b4
  have k8 := ans_set b4r rfl (.int .i64 0) (.slice none 0 0) (.slice none 0 0) (.slice none 0 0) (.slice pi (D.seenImg).length ci) (.int .i64 0) (.int .i64 0) (.bool false)
  have z0 := cell_of (i := 0) k8 rfl
  have z1 := cell_of (i := 1) k8 rfl
  have z2 := cell_of (i := 2) k8 rfl
  have z3 := cell_of (i := 3) k8 rfl
  have z4 := cell_of (i := 4) k8 rfl
  have z5 := cell_of (i := 5) k8 rfl
  have z6 := cell_of (i := 6) k8 rfl
  have z7 := cell_of (i := 7) k8 rfl
  refine bodyPost_ret (v := .agg #[.int .i64 0, .slice none 0 0, .slice none 0 0, .slice none 0 0, .slice pi (D.seenImg).length ci, .int .i64 0, .int .i64 0, .bool false]) (by simp [results, Tryz.results25, go_sem, z0, z1, z2, z3, z4, z5, z6, z7]) rfl ⟨_, rfl, ⟨_, _, _, _, rfl, (AnsC.frm (AnsC.frm ⟨⟨rfl, .inl ⟨rfl, rfl⟩⟩, ⟨rfl, .inl ⟨rfl, rfl⟩⟩, ⟨rfl, .inl ⟨rfl, rfl⟩⟩, Kd.R_lower hR1 HSZ.out⟩ b5 ((Frm.refl (fun k => k = w.heap.size + 1 + 1) w').setCell _ _ (fun _ => rfl))) b4r (((((((((Frm.refl (fun k => k = w.heap.size + 1) _).setCell _ _ (fun _ => rfl)).setCell _ _ (fun _ => rfl)).setCell _ _ (fun _ => rfl)).setCell _ _ (fun _ => rfl)).setCell _ _ (fun _ => rfl)).setCell _ _ (fun _ => rfl)).setCell _ _ (fun _ => rfl)).setCell _ _ (fun _ => rfl)))⟩, ?_⟩
  exact Next.mono (ask_end HL.out hx hBw ((((((((((Frm.refl _ _).setCell _ _ (fun _ => .inr rfl)).setCell _ _ (fun _ => .inl rfl)).setCell _ _ (fun _ => .inl rfl)).setCell _ _ (fun _ => .inl rfl)).setCell _ _ (fun _ => .inl rfl)).setCell _ _ (fun _ => .inl rfl)).setCell _ _ (fun _ => .inl rfl)).setCell _ _ (fun _ => .inl rfl)).setCell _ _ (fun _ => .inl rfl))) (by omega) hmm hf
set_option maxHeartbeats 4000000 in
set_option maxRecDepth 100000 in
theorem asked_11 {w0 w : World} {B b n m m2 : Nat} {lab : Nat → Option Lb} {eb : Nat → Addr} {D : Disk} (h : Live B w b lab eb l7 n m D) (h15 : Errs15 B w eb) (hBw : B ≤ w.heap.size) (hw : Frm (fun k => B ≤ k) w0 w) (hB : w0.heap.size ≤ B) (o : OpS) (v : Value) (ho : OpIn w0 o v) (ok : OpOk o) (hmm : m ≤ m2) (hmd : o.kind = 2 → m + o.data.length ≤ m2) (hf : DFit (n + 1) m2) (hk : o.kind = 11) : Calls Tryz.prog 25 #[dptr b, v] w fun e w' => ∃ av, e = .returned av ∧ AnsAt w' w.heap.size av (D.ask o).1 ∧ Next B w lab w' b eb l7 (n + 1) m2 (D.ask o).2 := by
  obtain ⟨A1, c1, A2, c2, A3, c3, rfl, hc1, hr1, hf2, hf3⟩ := ho
  have hask : D.ask o = ({ img := D.crash [] 0 }, D) := by unfold Disk.ask; simp [hk]
  rw [hask, hk]
  obtain ⟨ov, hov⟩ : ∃ ov : Array Value, ov = #[.int .i64 11, .string o.name, .string o.to_, .slice A1 o.data.length c1, .int .i64 o.n, .slice A2 o.fails.length c2, .int .i64 o.cut, .slice A3 o.fs.length c3, .int .i64 o.fn] := ⟨_, rfl⟩
  have h0 : Live B (askW w ov) b lab eb l7 n m D := h.frm (askW_frm w ov)
  have h150 : Errs15 B (askW w ov) eb := h15.frm (askW_frm w ov) (fun _ h => h.elim)
  skip
  have kop := h0.safe
  have hsz0 : w.heap.size ≤ (askW w ov).heap.size := (askW_frm w ov).size
  clear hask
  subst hov
  have KOP := Lib.hid kop
  have H0 := Lib.hid h0
  have H15 := Lib.hid h150
  have HL := Lib.hid h
  have HSZ := Lib.hid hsz0
  clear kop h150 h0 h15 hf2 hf3 hr1 hsz0
  unfold dptr at KOP ⊢
  clear hk
  go_enter Tryz.func25, Tryz.ntmps25
  go_wp2_with (first
    | (go_at_call 31; refine KOP.out.mono ?_; rintro e w' ⟨v, rfl, ⟨pi, ci, rfl, hd⟩, hf1⟩; have HR := Lib.hid (And.intro hd True.intro); clear hd; have hx := H0.out.stay hf1; obtain ⟨b5, b4⟩ := ask_blocks HL.out hx; obtain ⟨x0, x1, x2, x3, x4, x5, x6, x7, q5⟩ := ans_cells b5; obtain ⟨y0, y1, y2, y3, y4, y5, y6, y7, q4⟩ := ans_cells b4; have HX := Lib.hid (And.intro hx (And.intro b5 b4)); clear hx b5 b4))
  obtain ⟨hR1, hR2⟩ := HR.out
  obtain ⟨hx, b5, b4⟩ := HX.out
  have b4r : (w'.setCell ⟨w.heap.size + 1 + 1, 4, none⟩ (.slice pi (D.crash [] 0).length ci)).heap[w.heap.size + 1]? = some (.cells (ansCells 0 0 0 false (.slice none 0 0) (.slice none 0 0) (.slice none 0 0) (.slice none 0 0)) 59 (0, 0)) := by
    rw [blk_set_ne (by omega)]
    exact b4
  have k8 := ans_set b4r rfl (.int .i64 0) (.slice none 0 0) (.slice none 0 0) (.slice none 0 0) (.slice pi (D.crash [] 0).length ci) (.int .i64 0) (.int .i64 0) (.bool false)
  have z0 := cell_of (i := 0) k8 rfl
  have z1 := cell_of (i := 1) k8 rfl
  have z2 := cell_of (i := 2) k8 rfl
  have z3 := cell_of (i := 3) k8 rfl
  have z4 := cell_of (i := 4) k8 rfl
  have z5 := cell_of (i := 5) k8 rfl
  have z6 := cell_of (i := 6) k8 rfl
  have z7 := cell_of (i := 7) k8 rfl
  refine bodyPost_ret (v := .agg #[.int .i64 0, .slice none 0 0, .slice none 0 0, .slice none 0 0, .slice pi (D.crash [] 0).length ci, .int .i64 0, .int .i64 0, .bool false]) (by simp [results, Tryz.results25, go_sem, z0, z1, z2, z3, z4, z5, z6, z7]) rfl ⟨_, rfl, ⟨_, _, _, _, rfl, (AnsC.frm (AnsC.frm ⟨⟨rfl, .inl ⟨rfl, rfl⟩⟩, ⟨rfl, .inl ⟨rfl, rfl⟩⟩, ⟨rfl, .inl ⟨rfl, rfl⟩⟩, Kd.R_lower hR1 HSZ.out⟩ b5 ((Frm.refl (fun k => k = w.heap.size + 1 + 1) w').setCell _ _ (fun _ => rfl))) b4r (((((((((Frm.refl (fun k => k = w.heap.size + 1) _).setCell _ _ (fun _ => rfl)).setCell _ _ (fun _ => rfl)).setCell _ _ (fun _ => rfl)).setCell _ _ (fun _ => rfl)).setCell _ _ (fun _ => rfl)).setCell _ _ (fun _ => rfl)).setCell _ _ (fun _ => rfl)).setCell _ _ (fun _ => rfl)))⟩, ?_⟩
  exact Next.mono (ask_end HL.out hx hBw ((((((((((Frm.refl _ _).setCell _ _ (fun _ => .inr rfl)).setCell _ _ (fun _ => .inl rfl)).setCell _ _ (fun _ => .inl rfl)).setCell _ _ (fun _ => .inl rfl)).setCell _ _ (fun _ => .inl rfl)).setCell _ _ (fun _ => .inl rfl)).setCell _ _ (fun _ => .inl rfl)).setCell _ _ (fun _ => .inl rfl)).setCell _ _ (fun _ => .inl rfl))) (by omega) hmm hf
set_option maxHeartbeats 4000000 in
set_option maxRecDepth 100000 in
theorem asked_12 {w0 w : World} {B b n m m2 : Nat} {lab : Nat → Option Lb} {eb : Nat → Addr} {D : Disk} (h : Live B w b lab eb l7 n m D) (h15 : Errs15 B w eb) (hBw : B ≤ w.heap.size) (hw : Frm (fun k => B ≤ k) w0 w) (hB : w0.heap.size ≤ B) (o : OpS) (v : Value) (ho : OpIn w0 o v) (ok : OpOk o) (hmm : m ≤ m2) (hmd : o.kind = 2 → m + o.data.length ≤ m2) (hf : DFit (n + 1) m2) (hk : o.kind = 12) : Calls Tryz.prog 25 #[dptr b, v] w fun e w' => ∃ av, e = .returned av ∧ AnsAt w' w.heap.size av (D.ask o).1 ∧ Next B w lab w' b eb l7 (n + 1) m2 (D.ask o).2 := by
  obtain ⟨A1, c1, A2, c2, A3, c3, rfl, hc1, hr1, hf2, hf3⟩ := ho
  have hask : D.ask o = ({ img := D.crash o.fs o.fn }, D) := by unfold Disk.ask; simp [hk]
  rw [hask, hk]
  obtain ⟨ov, hov⟩ : ∃ ov : Array Value, ov = #[.int .i64 12, .string o.name, .string o.to_, .slice A1 o.data.length c1, .int .i64 o.n, .slice A2 o.fails.length c2, .int .i64 o.cut, .slice A3 o.fs.length c3, .int .i64 o.fn] := ⟨_, rfl⟩
  have h0 : Live B (askW w ov) b lab eb l7 n m D := h.frm (askW_frm w ov)
  have h150 : Errs15 B (askW w ov) eb := h15.frm (askW_frm w ov) (fun _ h => h.elim)
  skip
  have kop := h0.crash o.fs o.fn A3 c3 (fun j hj => by obtain ⟨ad, e, hc⟩ := hf3 j hj; exact ⟨ad, e, old_cell (hw.trans (askW_frm w ov) (fun _ _ h => h.elim)) hB hc⟩) ok.fs
  have hsz0 : w.heap.size ≤ (askW w ov).heap.size := (askW_frm w ov).size
  clear hask
  subst hov
  have KOP := Lib.hid kop
  have H0 := Lib.hid h0
  have H15 := Lib.hid h150
  have HL := Lib.hid h
  have HSZ := Lib.hid hsz0
  clear kop h150 h0 h15 hf2 hf3 hr1 hsz0
  unfold dptr at KOP ⊢
  clear hk
  go_enter Tryz.func25, Tryz.ntmps25
  go_wp2_with (first
    | (go_at_call 17; refine KOP.out.mono ?_; rintro e w' ⟨v, rfl, ⟨pi, ci, rfl, hd⟩, hf1⟩; have HR := Lib.hid (And.intro hd True.intro); clear hd; have hx := H0.out.stay hf1; obtain ⟨b5, b4⟩ := ask_blocks HL.out hx; obtain ⟨x0, x1, x2, x3, x4, x5, x6, x7, q5⟩ := ans_cells b5; obtain ⟨y0, y1, y2, y3, y4, y5, y6, y7, q4⟩ := ans_cells b4; have HX := Lib.hid (And.intro hx (And.intro b5 b4)); clear hx b5 b4))
  obtain ⟨hR1, hR2⟩ := HR.out
  obtain ⟨hx, b5, b4⟩ := HX.out
  have b4r : (w'.setCell ⟨w.heap.size + 1 + 1, 4, none⟩ (.slice pi (D.crash o.fs o.fn).length ci)).heap[w.heap.size + 1]? = some (.cells (ansCells 0 0 0 false (.slice none 0 0) (.slice none 0 0) (.slice none 0 0) (.slice none 0 0)) 59 (0, 0)) := by
    rw [blk_set_ne (by omega)]
    exact b4
  have k8 := ans_set b4r rfl (.int .i64 0) (.slice none 0 0) (.slice none 0 0) (.slice none 0 0) (.slice pi (D.crash o.fs o.fn).length ci) (.int .i64 0) (.int .i64 0) (.bool false)
  have z0 := cell_of (i := 0) k8 rfl
  have z1 := cell_of (i := 1) k8 rfl
  have z2 := cell_of (i := 2) k8 rfl
  have z3 := cell_of (i := 3) k8 rfl
  have z4 := cell_of (i := 4) k8 rfl
  have z5 := cell_of (i := 5) k8 rfl
  have z6 := cell_of (i := 6) k8 rfl
  have z7 := cell_of (i := 7) k8 rfl
  refine bodyPost_ret (v := .agg #[.int .i64 0, .slice none 0 0, .slice none 0 0, .slice none 0 0, .slice pi (D.crash o.fs o.fn).length ci, .int .i64 0, .int .i64 0, .bool false]) (by simp [results, Tryz.results25, go_sem, z0, z1, z2, z3, z4, z5, z6, z7]) rfl ⟨_, rfl, ⟨_, _, _, _, rfl, (AnsC.frm (AnsC.frm ⟨⟨rfl, .inl ⟨rfl, rfl⟩⟩, ⟨rfl, .inl ⟨rfl, rfl⟩⟩, ⟨rfl, .inl ⟨rfl, rfl⟩⟩, Kd.R_lower hR1 HSZ.out⟩ b5 ((Frm.refl (fun k => k = w.heap.size + 1 + 1) w').setCell _ _ (fun _ => rfl))) b4r (((((((((Frm.refl (fun k => k = w.heap.size + 1) _).setCell _ _ (fun _ => rfl)).setCell _ _ (fun _ => rfl)).setCell _ _ (fun _ => rfl)).setCell _ _ (fun _ => rfl)).setCell _ _ (fun _ => rfl)).setCell _ _ (fun _ => rfl)).setCell _ _ (fun _ => rfl)).setCell _ _ (fun _ => rfl)))⟩, ?_⟩
  exact Next.mono (ask_end HL.out hx hBw ((((((((((Frm.refl _ _).setCell _ _ (fun _ => .inr rfl)).setCell _ _ (fun _ => .inl rfl)).setCell _ _ (fun _ => .inl rfl)).setCell _ _ (fun _ => .inl rfl)).setCell _ _ (fun _ => .inl rfl)).setCell _ _ (fun _ => .inl rfl)).setCell _ _ (fun _ => .inl rfl)).setCell _ _ (fun _ => .inl rfl)).setCell _ _ (fun _ => .inl rfl))) (by omega) hmm hf
set_option maxHeartbeats 4000000 in
set_option maxRecDepth 100000 in
theorem asked_13 {w0 w : World} {B b n m m2 : Nat} {lab : Nat → Option Lb} {eb : Nat → Addr} {D : Disk} (h : Live B w b lab eb l7 n m D) (h15 : Errs15 B w eb) (hBw : B ≤ w.heap.size) (hw : Frm (fun k => B ≤ k) w0 w) (hB : w0.heap.size ≤ B) (o : OpS) (v : Value) (ho : OpIn w0 o v) (ok : OpOk o) (hmm : m ≤ m2) (hmd : o.kind = 2 → m + o.data.length ≤ m2) (hf : DFit (n + 1) m2) (hk : o.kind = 13) : Calls Tryz.prog 25 #[dptr b, v] w fun e w' => ∃ av, e = .returned av ∧ AnsAt w' w.heap.size av (D.ask o).1 ∧ Next B w lab w' b eb l7 (n + 1) m2 (D.ask o).2 := by
  obtain ⟨A1, c1, A2, c2, A3, c3, rfl, hc1, hr1, hf2, hf3⟩ := ho
  have hask : D.ask o = ({ a := D.waitingN, b := D.changes.length }, D) := by unfold Disk.ask; simp [hk]
  rw [hask, hk]
  obtain ⟨ov, hov⟩ : ∃ ov : Array Value, ov = #[.int .i64 13, .string o.name, .string o.to_, .slice A1 o.data.length c1, .int .i64 o.n, .slice A2 o.fails.length c2, .int .i64 o.cut, .slice A3 o.fs.length c3, .int .i64 o.fn] := ⟨_, rfl⟩
  have h0 : Live B (askW w ov) b lab eb l7 n m D := h.frm (askW_frm w ov)
  have h150 : Errs15 B (askW w ov) eb := h15.frm (askW_frm w ov) (fun _ h => h.elim)
  skip
  have kop := h0.waiting
  have hsz0 : w.heap.size ≤ (askW w ov).heap.size := (askW_frm w ov).size
  clear hask
  subst hov
  have KOP := Lib.hid kop
  have H0 := Lib.hid h0
  have H15 := Lib.hid h150
  have HL := Lib.hid h
  have HSZ := Lib.hid hsz0
  clear kop h150 h0 h15 hf2 hf3 hr1 hsz0
  unfold dptr at KOP ⊢
  clear hk
  go_enter Tryz.func25, Tryz.ntmps25
  go_wp2_with (first
    | (go_at_call 16; refine KOP.out.mono ?_; rintro e w' ⟨rfl, hf1⟩; have HR := Lib.hid (And.intro True.intro True.intro); have hx := H0.out.stay hf1; obtain ⟨b5, b4⟩ := ask_blocks HL.out hx; obtain ⟨x0, x1, x2, x3, x4, x5, x6, x7, q5⟩ := ans_cells b5; obtain ⟨y0, y1, y2, y3, y4, y5, y6, y7, q4⟩ := ans_cells b4; have HX := Lib.hid (And.intro hx (And.intro b5 b4)); clear hx b5 b4))
  obtain ⟨hR1, hR2⟩ := HR.out
  obtain ⟨hx, b5, b4⟩ := HX.out
  have b4r : ((w'.setCell ⟨w.heap.size + 1 + 1, 5, none⟩ (.int .i64 (D.waitingN : Nat))).setCell ⟨w.heap.size + 1 + 1, 6, none⟩ (.int .i64 (D.changes.length : Nat))).heap[w.heap.size + 1]? = some (.cells (ansCells 0 0 0 false (.slice none 0 0) (.slice none 0 0) (.slice none 0 0) (.slice none 0 0)) 59 (0, 0)) := by
    rw [blk_set_ne (by omega)]
    rw [blk_set_ne (by omega)]
    exact b4
  have k8 := ans_set b4r rfl (.int .i64 0) (.slice none 0 0) (.slice none 0 0) (.slice none 0 0) (.slice none 0 0) (.int .i64 (D.waitingN : Nat)) (.int .i64 (D.changes.length : Nat)) (.bool false)
  have z0 := cell_of (i := 0) k8 rfl
  have z1 := cell_of (i := 1) k8 rfl
  have z2 := cell_of (i := 2) k8 rfl
  have z3 := cell_of (i := 3) k8 rfl
  have z4 := cell_of (i := 4) k8 rfl
  have z5 := cell_of (i := 5) k8 rfl
  have z6 := cell_of (i := 6) k8 rfl
  have z7 := cell_of (i := 7) k8 rfl
  refine bodyPost_ret (v := .agg #[.int .i64 0, .slice none 0 0, .slice none 0 0, .slice none 0 0, .slice none 0 0, .int .i64 (D.waitingN : Nat), .int .i64 (D.changes.length : Nat), .bool false]) (by simp [results, Tryz.results25, go_sem, z0, z1, z2, z3, z4, z5, z6, z7]) rfl ⟨_, rfl, ⟨_, _, _, _, rfl, (AnsC.frm (AnsC.frm (AnsC.zero rfl rfl rfl rfl) b5 (((Frm.refl (fun k => k = w.heap.size + 1 + 1) w').setCell _ _ (fun _ => rfl)).setCell _ _ (fun _ => rfl))) b4r (((((((((Frm.refl (fun k => k = w.heap.size + 1) _).setCell _ _ (fun _ => rfl)).setCell _ _ (fun _ => rfl)).setCell _ _ (fun _ => rfl)).setCell _ _ (fun _ => rfl)).setCell _ _ (fun _ => rfl)).setCell _ _ (fun _ => rfl)).setCell _ _ (fun _ => rfl)).setCell _ _ (fun _ => rfl)))⟩, ?_⟩
  exact Next.mono (ask_end HL.out hx hBw (((((((((((Frm.refl _ _).setCell _ _ (fun _ => .inr rfl)).setCell _ _ (fun _ => .inr rfl)).setCell _ _ (fun _ => .inl rfl)).setCell _ _ (fun _ => .inl rfl)).setCell _ _ (fun _ => .inl rfl)).setCell _ _ (fun _ => .inl rfl)).setCell _ _ (fun _ => .inl rfl)).setCell _ _ (fun _ => .inl rfl)).setCell _ _ (fun _ => .inl rfl)).setCell _ _ (fun _ => .inl rfl))) (by omega) hmm hf
set_option maxHeartbeats 4000000 in
set_option maxRecDepth 100000 in
theorem asked_14 {w0 w : World} {B b n m m2 : Nat} {lab : Nat → Option Lb} {eb : Nat → Addr} {D : Disk} (h : Live B w b lab eb l7 n m D) (h15 : Errs15 B w eb) (hBw : B ≤ w.heap.size) (hw : Frm (fun k => B ≤ k) w0 w) (hB : w0.heap.size ≤ B) (o : OpS) (v : Value) (ho : OpIn w0 o v) (ok : OpOk o) (hmm : m ≤ m2) (hmd : o.kind = 2 → m + o.data.length ≤ m2) (hf : DFit (n + 1) m2) (hk : o.kind = 14) : Calls Tryz.prog 25 #[dptr b, v] w fun e w' => ∃ av, e = .returned av ∧ AnsAt w' w.heap.size av (D.ask o).1 ∧ Next B w lab w' b eb l7 (n + 1) m2 (D.ask o).2 := by
  obtain ⟨A1, c1, A2, c2, A3, c3, rfl, hc1, hr1, hf2, hf3⟩ := ho
  have hask : D.ask o = ({}, D.arm o.fails o.cut) := by unfold Disk.ask; simp [hk]
  rw [hask, hk]
  obtain ⟨ov, hov⟩ : ∃ ov : Array Value, ov = #[.int .i64 14, .string o.name, .string o.to_, .slice A1 o.data.length c1, .int .i64 o.n, .slice A2 o.fails.length c2, .int .i64 o.cut, .slice A3 o.fs.length c3, .int .i64 o.fn] := ⟨_, rfl⟩
  have h0 : Live B (askW w ov) b lab eb l7 n m D := h.frm (askW_frm w ov)
  have h150 : Errs15 B (askW w ov) eb := h15.frm (askW_frm w ov) (fun _ h => h.elim)
  have kop := h0.arm (.slice A2 o.fails.length c2) o.fails o.cut (hf2.old (hw.trans (askW_frm w ov) (fun _ _ h => h.elim)) hB) ok.fails
  clear hask
  generalize D.arm o.fails o.cut = D' at *
  subst hov
  have KOP := Lib.hid kop
  have HL := Lib.hid h
  clear kop h150 h0 h15 hf2 hf3 hr1
  unfold dptr at KOP ⊢
  clear hk
  go_enter Tryz.func25, Tryz.ntmps25
  go_wp2_with (first
    | (go_at_call 42; refine KOP.out.mono ?_; rintro e w' ⟨rfl, hx⟩; obtain ⟨b5, b4⟩ := ask_blocks HL.out hx; obtain ⟨x0, x1, x2, x3, x4, x5, x6, x7, q5⟩ := ans_cells b5; obtain ⟨y0, y1, y2, y3, y4, y5, y6, y7, q4⟩ := ans_cells b4; have HX := Lib.hid (And.intro hx (And.intro b5 b4)); clear hx b5 b4))
  obtain ⟨hx, b5, b4⟩ := HX.out
  have b4r : w'.heap[w.heap.size + 1]? = some (.cells (ansCells 0 0 0 false (.slice none 0 0) (.slice none 0 0) (.slice none 0 0) (.slice none 0 0)) 59 (0, 0)) := by
    exact b4
  have k8 := ans_set b4r rfl (.int .i64 0) (.slice none 0 0) (.slice none 0 0) (.slice none 0 0) (.slice none 0 0) (.int .i64 0) (.int .i64 0) (.bool false)
  have z0 := cell_of (i := 0) k8 rfl
  have z1 := cell_of (i := 1) k8 rfl
  have z2 := cell_of (i := 2) k8 rfl
  have z3 := cell_of (i := 3) k8 rfl
  have z4 := cell_of (i := 4) k8 rfl
  have z5 := cell_of (i := 5) k8 rfl
  have z6 := cell_of (i := 6) k8 rfl
  have z7 := cell_of (i := 7) k8 rfl
  refine bodyPost_ret (v := .agg #[.int .i64 0, .slice none 0 0, .slice none 0 0, .slice none 0 0, .slice none 0 0, .int .i64 0, .int .i64 0, .bool false]) (by simp [results, Tryz.results25, go_sem, z0, z1, z2, z3, z4, z5, z6, z7]) rfl ⟨_, rfl, ⟨_, _, _, _, rfl, AnsC.zero rfl rfl rfl rfl⟩, ?_⟩
  exact Next.mono (ask_end HL.out hx hBw (((((((((Frm.refl _ _).setCell _ _ (fun _ => .inl rfl)).setCell _ _ (fun _ => .inl rfl)).setCell _ _ (fun _ => .inl rfl)).setCell _ _ (fun _ => .inl rfl)).setCell _ _ (fun _ => .inl rfl)).setCell _ _ (fun _ => .inl rfl)).setCell _ _ (fun _ => .inl rfl)).setCell _ _ (fun _ => .inl rfl))) (by omega) hmm hf
set_option maxHeartbeats 4000000 in
set_option maxRecDepth 100000 in
theorem asked_15 {w0 w : World} {B b n m m2 : Nat} {lab : Nat → Option Lb} {eb : Nat → Addr} {D : Disk} (h : Live B w b lab eb l7 n m D) (h15 : Errs15 B w eb) (hBw : B ≤ w.heap.size) (hw : Frm (fun k => B ≤ k) w0 w) (hB : w0.heap.size ≤ B) (o : OpS) (v : Value) (ho : OpIn w0 o v) (ok : OpOk o) (hmm : m ≤ m2) (hmd : o.kind = 2 → m + o.data.length ≤ m2) (hf : DFit (n + 1) m2) (hk : o.kind = 15) : Calls Tryz.prog 25 #[dptr b, v] w fun e w' => ∃ av, e = .returned av ∧ AnsAt w' w.heap.size av (D.ask o).1 ∧ Next B w lab w' b eb l7 (n + 1) m2 (D.ask o).2 := by
  obtain ⟨A1, c1, A2, c2, A3, c3, rfl, hc1, hr1, hf2, hf3⟩ := ho
  have hask : D.ask o = ({ a := D.count, yes := D.off }, D) := by unfold Disk.ask; simp [hk]
  rw [hask, hk]
  obtain ⟨ov, hov⟩ : ∃ ov : Array Value, ov = #[.int .i64 15, .string o.name, .string o.to_, .slice A1 o.data.length c1, .int .i64 o.n, .slice A2 o.fails.length c2, .int .i64 o.cut, .slice A3 o.fs.length c3, .int .i64 o.fn] := ⟨_, rfl⟩
  have h0 : Live B (askW w ov) b lab eb l7 n m D := h.frm (askW_frm w ov)
  have h150 : Errs15 B (askW w ov) eb := h15.frm (askW_frm w ov) (fun _ h => h.elim)
  have hd := h.dsk
  have hno : lab (w.heap.size + 1 + 1) = none := by
    obtain ⟨A, hd⟩ := hd
    rcases hl : lab (w.heap.size + 1 + 1) with _ | p
    · rfl
    · have := (hd.base _ p hl).2; omega
  have kop := h0.ops
  have kdn := fun u => (h0.off_ (F := fun k => k = w.heap.size + 1 + 1) ((Frm.refl _ _).setCell ⟨w.heap.size + 1 + 1, 5, none⟩ u (fun _ => rfl)) (fun k hk => by rw [hk]; exact ⟨hno, by omega⟩)).down
  have hst : ∀ W, W = askW w ov → Next B (askW w ov) lab W b eb l7 n m D := fun W e => by rw [e]; exact h0.stay (Frm.refl _ _)
  clear hask hd hno
  have kd2 : ∀ W, W = askW w ov → ∀ u, Calls Tryz.prog 35 #[dptr b] (W.setCell ⟨w.heap.size + 1 + 1, 5, none⟩ u) fun e w' => e = .returned (.bool D.off) ∧ w' = W.setCell ⟨w.heap.size + 1 + 1, 5, none⟩ u := fun W e u => by rw [e]; exact kdn u
  subst hov
  have KOP := Lib.hid kop
  have KDN := Lib.hid kd2
  have HST := Lib.hid hst
  have HL := Lib.hid h
  clear kop kdn kd2 hst h150 h0 h15 hf2 hf3 hr1
  unfold dptr at KOP KDN ⊢
  clear hk
  go_enter Tryz.func25, Tryz.ntmps25
  go_wp2_with (first
    | (go_at_call 33; refine KOP.out.mono ?_; rintro e w' ⟨rfl, hw'⟩; have hx := HST.out w' hw'; have KD2 := Lib.hid (KDN.out w' hw'); clear hw'; obtain ⟨b5, b4⟩ := ask_blocks HL.out hx; obtain ⟨x0, x1, x2, x3, x4, x5, x6, x7, q5⟩ := ans_cells b5; obtain ⟨y0, y1, y2, y3, y4, y5, y6, y7, q4⟩ := ans_cells b4; have HX := Lib.hid (And.intro hx (And.intro b5 b4)); clear hx b5 b4)
    | (go_at_call 35; refine (KD2.out _).mono ?_; rintro e w2 ⟨rfl, rfl⟩))
  obtain ⟨hx, b5, b4⟩ := HX.out
  have b4r : ((w'.setCell ⟨w.heap.size + 1 + 1, 5, none⟩ (.int .i64 (D.count : Nat))).setCell ⟨w.heap.size + 1 + 1, 7, none⟩ (.bool D.off)).heap[w.heap.size + 1]? = some (.cells (ansCells 0 0 0 false (.slice none 0 0) (.slice none 0 0) (.slice none 0 0) (.slice none 0 0)) 59 (0, 0)) := by
    rw [blk_set_ne (by omega)]
    rw [blk_set_ne (by omega)]
    exact b4
  have k8 := ans_set b4r rfl (.int .i64 0) (.slice none 0 0) (.slice none 0 0) (.slice none 0 0) (.slice none 0 0) (.int .i64 (D.count : Nat)) (.int .i64 0) (.bool D.off)
  have z0 := cell_of (i := 0) k8 rfl
  have z1 := cell_of (i := 1) k8 rfl
  have z2 := cell_of (i := 2) k8 rfl
  have z3 := cell_of (i := 3) k8 rfl
  have z4 := cell_of (i := 4) k8 rfl
  have z5 := cell_of (i := 5) k8 rfl
  have z6 := cell_of (i := 6) k8 rfl
  have z7 := cell_of (i := 7) k8 rfl
  refine bodyPost_ret (v := .agg #[.int .i64 0, .slice none 0 0, .slice none 0 0, .slice none 0 0, .slice none 0 0, .int .i64 (D.count : Nat), .int .i64 0, .bool D.off]) (by simp [results, Tryz.results25, go_sem, z0, z1, z2, z3, z4, z5, z6, z7]) rfl ⟨_, rfl, ⟨_, _, _, _, rfl, AnsC.zero rfl rfl rfl rfl⟩, ?_⟩
  exact Next.mono (ask_end HL.out hx hBw (((((((((((Frm.refl _ _).setCell _ _ (fun _ => .inr rfl)).setCell _ _ (fun _ => .inr rfl)).setCell _ _ (fun _ => .inl rfl)).setCell _ _ (fun _ => .inl rfl)).setCell _ _ (fun _ => .inl rfl)).setCell _ _ (fun _ => .inl rfl)).setCell _ _ (fun _ => .inl rfl)).setCell _ _ (fun _ => .inl rfl)).setCell _ _ (fun _ => .inl rfl)).setCell _ _ (fun _ => .inl rfl))) (by omega) hmm hf
set_option maxHeartbeats 4000000 in
set_option maxRecDepth 100000 in
theorem asked_no {w0 w : World} {B b n m m2 : Nat} {lab : Nat → Option Lb} {eb : Nat → Addr} {D : Disk} (h : Live B w b lab eb l7 n m D) (h15 : Errs15 B w eb) (hBw : B ≤ w.heap.size) (hw : Frm (fun k => B ≤ k) w0 w) (hB : w0.heap.size ≤ B) (o : OpS) (v : Value) (ho : OpIn w0 o v) (ok : OpOk o) (hmm : m ≤ m2) (hmd : o.kind = 2 → m + o.data.length ≤ m2) (hf : DFit (n + 1) m2) (hk : ¬ (1 ≤ o.kind ∧ o.kind ≤ 15)) : Calls Tryz.prog 25 #[dptr b, v] w fun e w' => ∃ av, e = .returned av ∧ AnsAt w' w.heap.size av (D.ask o).1 ∧ Next B w lab w' b eb l7 (n + 1) m2 (D.ask o).2 := by
  obtain ⟨A1, c1, A2, c2, A3, c3, rfl, hc1, hr1, hf2, hf3⟩ := ho
  have hk0 : ¬ o.kind = 1 ∧ ¬ o.kind = 2 ∧ ¬ o.kind = 3 ∧ ¬ o.kind = 4 ∧ ¬ o.kind = 5 ∧ ¬ o.kind = 6 ∧ ¬ o.kind = 7 ∧ ¬ o.kind = 8 ∧ ¬ o.kind = 9 ∧ ¬ o.kind = 10 ∧ ¬ o.kind = 11 ∧ ¬ o.kind = 12 ∧ ¬ o.kind = 13 ∧ ¬ o.kind = 14 ∧ ¬ o.kind = 15 := by omega
  obtain ⟨u1, u2, u3, u4, u5, u6, u7, u8, u9, u10, u11, u12, u13, u14, u15⟩ := hk0
  have hask : D.ask o = ({}, D) := by unfold Disk.ask; simp [u1, u2, u3, u4, u5, u6, u7, u8, u9, u10, u11, u12, u13, u14, u15]
  rw [hask]
  obtain ⟨kk, hkk⟩ : ∃ kk, kk = o.kind := ⟨_, rfl⟩
  rw [← hkk] at u1 u2 u3 u4 u5 u6 u7 u8 u9 u10 u11 u12 u13 u14 u15 ⊢
  have g1 : (kk == 1) = false := beq_eq_false_iff_ne.2 u1
  have g2 : (kk == 2) = false := beq_eq_false_iff_ne.2 u2
  have g3 : (kk == 3) = false := beq_eq_false_iff_ne.2 u3
  have g4 : (kk == 4) = false := beq_eq_false_iff_ne.2 u4
  have g5 : (kk == 5) = false := beq_eq_false_iff_ne.2 u5
  have g6 : (kk == 6) = false := beq_eq_false_iff_ne.2 u6
  have g7 : (kk == 7) = false := beq_eq_false_iff_ne.2 u7
  have g8 : (kk == 8) = false := beq_eq_false_iff_ne.2 u8
  have g9 : (kk == 9) = false := beq_eq_false_iff_ne.2 u9
  have g10 : (kk == 10) = false := beq_eq_false_iff_ne.2 u10
  have g11 : (kk == 11) = false := beq_eq_false_iff_ne.2 u11
  have g12 : (kk == 12) = false := beq_eq_false_iff_ne.2 u12
  have g13 : (kk == 13) = false := beq_eq_false_iff_ne.2 u13
  have g14 : (kk == 14) = false := beq_eq_false_iff_ne.2 u14
  have g15 : (kk == 15) = false := beq_eq_false_iff_ne.2 u15
  clear hask hk hkk hf2 hf3 hr1 h15 hw hB u1 u2 u3 u4 u5 u6 u7 u8 u9 u10 u11 u12 u13 u14 u15
  have HL := Lib.hid h
  clear h
  unfold dptr
  go_enter Tryz.func25, Tryz.ntmps25
  go_wp2
  refine bodyPost_ret (v := .agg #[.int .i64 0, .slice none 0 0, .slice none 0 0, .slice none 0 0, .slice none 0 0, .int .i64 0, .int .i64 0, .bool false]) (by simp [results, Tryz.results25, go_sem]) rfl ⟨_, rfl, ⟨_, _, _, _, rfl, AnsC.zero rfl rfl rfl rfl⟩, ?_⟩
  exact Next.mono (HL.out.stay ((((Frm.refl _ _).alloc _).alloc _).alloc _)) (by omega) hmm hf
/-- One call of a script: its answer, the disk behind it. -/
theorem asked_calls {w0 w : World} {B b n m m2 : Nat} {lab : Nat → Option Lb} {eb : Nat → Addr} {D : Disk} (h : Live B w b lab eb l7 n m D) (h15 : Errs15 B w eb) (hBw : B ≤ w.heap.size) (hw : Frm (fun k => B ≤ k) w0 w) (hB : w0.heap.size ≤ B) (o : OpS) (v : Value) (ho : OpIn w0 o v) (ok : OpOk o) (hmm : m ≤ m2) (hmd : o.kind = 2 → m + o.data.length ≤ m2) (hf : DFit (n + 1) m2) : Calls Tryz.prog 25 #[dptr b, v] w fun e w' => ∃ av, e = .returned av ∧ AnsAt w' w.heap.size av (D.ask o).1 ∧ Next B w lab w' b eb l7 (n + 1) m2 (D.ask o).2 := by
  by_cases hk : 1 ≤ o.kind ∧ o.kind ≤ 15
  · have hc : o.kind = 1 ∨ o.kind = 2 ∨ o.kind = 3 ∨ o.kind = 4 ∨ o.kind = 5 ∨ o.kind = 6 ∨ o.kind = 7 ∨ o.kind = 8 ∨ o.kind = 9 ∨ o.kind = 10 ∨ o.kind = 11 ∨ o.kind = 12 ∨ o.kind = 13 ∨ o.kind = 14 ∨ o.kind = 15 := by omega
    rcases hc with hc | hc | hc | hc | hc | hc | hc | hc | hc | hc | hc | hc | hc | hc | hc
    · exact asked_1 h h15 hBw hw hB o v ho ok hmm hmd hf hc
    · exact asked_2 h h15 hBw hw hB o v ho ok hmm hmd hf hc
    · exact asked_3 h h15 hBw hw hB o v ho ok hmm hmd hf hc
    · exact asked_4 h h15 hBw hw hB o v ho ok hmm hmd hf hc
    · exact asked_5 h h15 hBw hw hB o v ho ok hmm hmd hf hc
    · exact asked_6 h h15 hBw hw hB o v ho ok hmm hmd hf hc
    · exact asked_7 h h15 hBw hw hB o v ho ok hmm hmd hf hc
    · exact asked_8 h h15 hBw hw hB o v ho ok hmm hmd hf hc
    · exact asked_9 h h15 hBw hw hB o v ho ok hmm hmd hf hc
    · exact asked_10 h h15 hBw hw hB o v ho ok hmm hmd hf hc
    · exact asked_11 h h15 hBw hw hB o v ho ok hmm hmd hf hc
    · exact asked_12 h h15 hBw hw hB o v ho ok hmm hmd hf hc
    · exact asked_13 h h15 hBw hw hB o v ho ok hmm hmd hf hc
    · exact asked_14 h h15 hBw hw hB o v ho ok hmm hmd hf hc
    · exact asked_15 h h15 hBw hw hB o v ho ok hmm hmd hf hc
  · exact asked_no h h15 hBw hw hB o v ho ok hmm hmd hf hk
end Go.Proofs.YtglhedahannjiaaGreatDoor.Dw
