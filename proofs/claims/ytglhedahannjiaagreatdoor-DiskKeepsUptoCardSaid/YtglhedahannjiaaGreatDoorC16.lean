/- A part of the proof of diskDown_holds: Eq, Fa, Fb. No condition. -/
import Derived.Test.YtglhedahannjiaaGreatDoorC15

/- A disk with its invariants and its measures: what each call leaves of them. -/
namespace Go.Proofs.YtglhedahannjiaaGreatDoor.Dm
set_option linter.unusedVariables false
theorem Inv.wf {D : Disk} (h : Inv D) : Go.Proofs.YtglhedahannjiaaGreatDoor.Da.WF D :=
  ⟨h.now.names, h.sure.names, h.now.lt, h.sure.lt, h.put, fun c hc n hn => by
    have := h.del c hc n hn
    unfold good at this
    simp only [Bool.and_eq_true, decide_eq_true_eq] at this
    omega⟩
/-- How many files, changes and operations there may be, how long a file may be. -/
structure Sz (n m : Nat) (D : Disk) : Prop where
  files : D.files.length ≤ n
  changes : D.changes.length ≤ n
  count : D.count ≤ n
  since : D.since ≤ n
  len : ∀ f, f ∈ D.files → f.seen.length ≤ m
theorem Sz.new : Sz 0 0 Disk.new := ⟨by simp [Disk.new], by simp [Disk.new], by simp [Disk.new], by simp [Disk.new], by simp [Disk.new]⟩
theorem Sz.mono {n m n' m' : Nat} {D : Disk} (h : Sz n m D) (hn : n ≤ n') (hm : m ≤ m') : Sz n' m' D :=
  ⟨Nat.le_trans h.files hn, Nat.le_trans h.changes hn, Nat.le_trans h.count hn, Nat.le_trans h.since hn, fun f hf => Nat.le_trans (h.len f hf) hm⟩
/-- .. where an operation has begun: files and changes are as before. -/
structure Szo (n m : Nat) (D : Disk) : Prop where
  files : D.files.length ≤ n
  changes : D.changes.length ≤ n
  count : D.count ≤ n + 1
  since : D.since ≤ n + 1
  len : ∀ f, f ∈ D.files → f.seen.length ≤ m
theorem Szo.up {n m m' : Nat} {D : Disk} (h : Szo n m D) (hm : m ≤ m') : Sz (n + 1) m' D :=
  ⟨Nat.le_succ_of_le h.files, Nat.le_succ_of_le h.changes, h.count, h.since, fun f hf => Nat.le_trans (h.len f hf) hm⟩
theorem Sz.tick {n m : Nat} {D : Disk} (h : Sz n m D) : Szo n m D.tick := ⟨h.files, h.changes, Nat.succ_le_succ h.count, Nat.succ_le_succ h.since, h.len⟩
theorem Sz.tickDark {n m : Nat} {D : Disk} (h : Sz n m D) : Szo n m D.tick.dark := ⟨h.files, h.changes, Nat.succ_le_succ h.count, Nat.succ_le_succ h.since, h.len⟩
theorem Sz.run {n m m' : Nat} {D : Disk} (h : Sz n m D) {ref : Err} {act : Disk → Disk} {wt : Bool} {part : Option (Int → Disk → Disk)} (hm : m ≤ m') (ha : ∀ D1, Szo n m D1 → Sz (n + 1) m' (act D1)) (hp : ∀ p k D1, part = some p → Szo n m D1 → Sz (n + 1) m' (p k D1)) : Sz (n + 1) m' (D.run ref act wt part).2 := by
  have h1 := h.tick.up hm
  have h2 := h.tickDark.up hm
  unfold Disk.run
  split
  · exact h.mono (Nat.le_succ _) hm
  · split
    · simp only []
      split
      · exact ha _ h.tickDark
      · exact h2
    · simp only []
      unfold failTo
      split
      · split
        · exact hp _ _ _ rfl h.tick
        · exact h1
      · exact h1
    · split
      · exact ha _ h.tick
      · exact h1
theorem mem_modify {α : Type} {l : List α} {i : Nat} {g : α → α} {x : α} (h : x ∈ l.modify i g) : x ∈ l ∨ ∃ y, y ∈ l ∧ x = g y := by
  obtain ⟨j, hj⟩ := List.mem_iff_getElem?.1 h
  rw [List.getElem?_modify] at hj
  obtain ⟨y, hy, he⟩ := Option.map_eq_some_iff.1 hj
  have hm := List.mem_of_getElem? hy
  split at he
  · exact .inr ⟨y, hm, he.symm⟩
  · exact .inl (by rw [← he]; exact hm)
theorem Szo.onFile {n m m' : Nat} {D : Disk} (h : Szo n m D) {nm : Name} {g : FileS → FileS} (hm : m ≤ m') (hg : ∀ f, f.seen.length ≤ m → (g f).seen.length ≤ m') : Sz (n + 1) m' (Disk.onFile nm g D) := by
  unfold Disk.onFile
  split
  · refine ⟨?_, Nat.le_succ_of_le h.changes, h.count, h.since, ?_⟩
    · have := h.files
      simp only [Disk.modify, List.length_modify]; omega
    · intro f hf
      rcases mem_modify hf with hf | ⟨f0, hf0, rfl⟩
      · exact Nat.le_trans (h.len f hf) hm
      · exact hg _ (h.len _ hf0)
  · exact h.up hm
theorem Sz.opCreate {n m : Nat} {D : Disk} (h : Sz n m D) (nm : Name) : Sz (n + 1) m (D.create nm).2 := by
  refine h.run (Nat.le_refl _) (fun D1 hD => ?_) (fun p k D1 hp => by cases hp)
  have h1 := hD.files
  have h2 := hD.changes
  refine ⟨by simp only [Disk.doCreate, List.length_append, List.length_singleton]; omega, by simp only [Disk.doCreate, List.length_append, List.length_singleton]; omega, hD.count, hD.since, fun f hf => ?_⟩
  rcases List.mem_append.1 hf with hf | hf
  · exact hD.len f hf
  · rw [List.mem_singleton.1 hf]; exact Nat.zero_le _
theorem add_len (data : List Int) (f : FileS) : (f.add data).seen.length = f.seen.length + data.length := by
  unfold FileS.add
  split
  · rename_i h; rw [h]; rfl
  · simp
theorem Sz.opAppend {n m : Nat} {D : Disk} (h : Sz n m D) (nm : Name) (data : List Int) : Sz (n + 1) (m + data.length) (D.append nm data).2 := by
  refine h.run (Nat.le_add_right _ _) (fun D1 hD => hD.onFile (Nat.le_add_right _ _) fun f hf => ?_) (fun p k D1 hp hD => ?_)
  · rw [add_len]; omega
  · cases hp
    refine hD.onFile (Nat.le_add_right _ _) fun f hf => ?_
    rw [add_len, List.length_take]; omega
theorem Sz.opSync {n m : Nat} {D : Disk} (h : Sz n m D) (nm : Name) : Sz (n + 1) m (D.sync nm).2 :=
  h.run (Nat.le_refl _) (fun D1 hD => hD.onFile (Nat.le_refl _) fun f hf => hf) (fun p k D1 hp => by cases hp)
theorem Sz.opTruncate {n m : Nat} {D : Disk} (h : Sz n m D) (nm : Name) (k : Int) : Sz (n + 1) m (D.truncate nm k).2 :=
  h.run (Nat.le_refl _) (fun D1 hD => hD.onFile (Nat.le_refl _) fun f hf => by simp only [FileS.trunc, List.length_take]; omega) (fun p k D1 hp => by cases hp)
theorem Sz.opRename {n m : Nat} {D : Disk} (h : Sz n m D) (a b : Name) : Sz (n + 1) m (D.rename a b).2 := by
  refine h.run (Nat.le_refl _) (fun D1 hD => ?_) (fun p k D1 hp => by cases hp)
  have h2 := hD.changes
  unfold Disk.doRename
  split
  · exact hD.up (Nat.le_refl _)
  · split
    · exact ⟨Nat.le_succ_of_le hD.files, by simp only [List.length_append, List.length_singleton]; omega, hD.count, hD.since, hD.len⟩
    · exact hD.up (Nat.le_refl _)
theorem Sz.opRemove {n m : Nat} {D : Disk} (h : Sz n m D) (nm : Name) : Sz (n + 1) m (D.remove nm).2 := by
  refine h.run (Nat.le_refl _) (fun D1 hD => ?_) (fun p k D1 hp => by cases hp)
  have h2 := hD.changes
  exact ⟨Nat.le_succ_of_le hD.files, by simp only [Disk.doRemove, List.length_append, List.length_singleton]; omega, hD.count, hD.since, hD.len⟩
theorem Sz.opSyncNames {n m : Nat} {D : Disk} (h : Sz n m D) : Sz (n + 1) m D.syncNames.2 :=
  h.run (Nat.le_refl _) (fun D1 hD => ⟨Nat.le_succ_of_le hD.files, Nat.zero_le _, hD.count, hD.since, hD.len⟩) (fun p k D1 hp => by cases hp)
theorem Sz.arm {n m : Nat} {D : Disk} (h : Sz n m D) (fails : List (Int × Int)) (cut : Int) : Sz n m (D.arm fails cut) := by
  unfold Disk.arm
  split
  · exact h
  · exact ⟨h.files, h.changes, h.count, Nat.zero_le _, h.len⟩
end Go.Proofs.YtglhedahannjiaaGreatDoor.Dm
namespace Go.Proofs.YtglhedahannjiaaGreatDoor.Dw
open Go.RowKit Go.ChangeMaps Go.Proofs.YtglhedahannjiaaGreatDoor.Mp Go.Proofs.YtglhedahannjiaaGreatDoor.Dm Go.Proofs.YtglhedahannjiaaGreatDoor.Da
set_option linter.unusedVariables false
set_option linter.unusedSimpArgs false
set_option linter.unusedSectionVars false
/-- Measures within which every number of the program's is small. -/
structure DFit (n m : Nat) : Prop where
  fn : n ≤ 1099511627775
  fm : m ≤ 4398046511104
  fw : n * ((m + 511) / 512) ≤ 18014398509481984
theorem DFit.small {n m : Nat} (hn : n ≤ 2097152) (hm : m ≤ 4398046511104) : DFit n m :=
  ⟨by omega, hm, Nat.le_trans (Nat.mul_le_mul hn (show (m + 511) / 512 ≤ 8589934592 by omega)) (by decide)⟩
theorem DFit.sum {n m : Nat} {D : Disk} (h : DFit n m) (hs : Sz n m D) : ∀ dk : List (Name × Nat), dk.length ≤ D.files.length → (dk.map (wl D)).sum ≤ 18014398509481984 := fun dk hd =>
  Nat.le_trans (sum_le (m := (m + 511) / 512) fun x _ => wl_le hs.len) (Nat.le_trans (Nat.mul_le_mul_right _ (Nat.le_trans hd hs.files)) h.fw)
/-- A disk at b, all of whose blocks stand behind B; the errors; the invariants; the measures. -/
structure Live (B : Nat) (w : World) (b : Nat) (lab : Nat → Option Lb) (eb : Nat → Addr) (L : List Err) (n m : Nat) (D : Disk) : Prop where
  dsk : ∃ A, DiskAt B w b A lab D
  ers : ErrsAt B w eb L
  inv : Inv D
  sz : Sz n m D
  fit : DFit n m
theorem Live.hm {B : Nat} {w : World} {b : Nat} {lab : Nat → Option Lb} {eb : Nat → Addr} {L : List Err} {n m : Nat} {D : Disk} (h : Live B w b lab eb L n m D) : m ≤ 4398046511104 := h.fit.fm
theorem Live.bnd {B : Nat} {w : World} {b : Nat} {lab : Nat → Option Lb} {eb : Nat → Addr} {L : List Err} {n m : Nat} {D : Disk} (h : Live B w b lab eb L n m D) : Bnd D := by
  obtain ⟨_, _, _, ⟨h1, h2, h3, h4, h5⟩, ⟨hn, hm, _⟩⟩ := h
  exact ⟨by omega, by omega, by omega, by omega, fun f hf => Nat.le_trans (h5 f hf) hm⟩
/-- Behind one call: the disk; what else has turned was the disk's. -/
def Next (B : Nat) (w : World) (lab : Nat → Option Lb) (w' : World) (b : Nat) (eb : Nat → Addr) (L : List Err) (n m : Nat) (D : Disk) : Prop :=
  ∃ lab', Live B w' b lab' eb L n m D ∧ Frm (Ft lab) w w' ∧ ∀ k, k < w.heap.size → Ft lab' k → Ft lab k
section
variable {B : Nat} {w : World} {b : Nat} {lab : Nat → Option Lb} {eb : Nat → Addr} {L : List Err} {n m : Nat} {D : Disk}
theorem Live.base (h : Live B w b lab eb L n m D) : ∀ k, Ft lab k → B ≤ k := by
  obtain ⟨⟨A, h⟩, _⟩ := h
  intro k hk
  obtain ⟨p, hp⟩ := Option.isSome_iff_exists.1 hk
  exact (h.base k p hp).1
theorem Live.next (h : Live B w b lab eb L n m D) {w' : World} {D' : Disk} {n' m' : Nat} (he : Ext B b lab w w' D') (hi : Inv D') (hs : Sz n' m' D') (hf : DFit n' m') : Next B w lab w' b eb L n' m' D' := by
  obtain ⟨A, lab', h1, h2, h3⟩ := he
  exact ⟨lab', ⟨⟨A, h1⟩, h.ers.frm h2 h.base, hi, hs, hf⟩, h2, h3⟩
theorem Live.frm (h : Live B w b lab eb L n m D) {w' : World} (hf : Frm (fun _ => False) w w') : Live B w' b lab eb L n m D := by
  obtain ⟨⟨A, h1⟩, h2, h3, h4, h5⟩ := h
  exact ⟨⟨A, h1.frame hf (fun _ h => h.elim)⟩, h2.frm hf (fun _ h => h.elim), h3, h4, h5⟩
theorem Live.createW (h : Live B w b lab eb L n m D) (hf : DFit (n + 1) m) (nm : Name) (hnm : nm.size ≤ 9223372036854775807) :
    Calls Tryz.prog 12 #[dptr b, .string nm] w fun e w' => e = .returned (errV eb (D.create nm).1) ∧ Next B w lab w' b eb L (n + 1) m (D.create nm).2 := by
  obtain ⟨A, h1⟩ := h.dsk
  refine (create_calls h1 h.ers h.inv.wf h.bnd nm hnm).mono ?_
  rintro e w' ⟨he, hx⟩
  exact ⟨he, h.next hx (h.inv.opCreate nm) (h.sz.opCreate nm) hf⟩
theorem Live.create (h : Live B w b lab eb L n m D) (hn : n + 1 ≤ 2097152) (nm : Name) (hnm : nm.size ≤ 9223372036854775807) :
    Calls Tryz.prog 12 #[dptr b, .string nm] w fun e w' => e = .returned (errV eb (D.create nm).1) ∧ Next B w lab w' b eb L (n + 1) m (D.create nm).2 :=
  h.createW (.small hn h.hm) nm hnm
theorem Live.appendW (h : Live B w b lab eb L n m D) (nm : Name) (pv : Option Addr) (cc : Nat) (data : List Int) (hf : DFit (n + 1) (m + data.length)) (hv : Given w lab (.slice pv data.length cc) data) (hcc : data.length ≤ cc) (hd : ∀ x, x ∈ data → 0 ≤ x ∧ x < 256) :
    Calls Tryz.prog 13 #[dptr b, .string nm, .slice pv data.length cc] w fun e w' => e = .returned (errV eb (D.append nm data).1) ∧ Next B w lab w' b eb L (n + 1) (m + data.length) (D.append nm data).2 := by
  obtain ⟨A, h1⟩ := h.dsk
  refine (append_calls h1 h.ers h.inv.wf h.bnd nm pv cc data hv hcc (by have := hf.fm; omega)).mono ?_
  rintro e w' ⟨he, hx⟩
  exact ⟨he, h.next hx (h.inv.opAppend nm data hd) (h.sz.opAppend nm data) hf⟩
theorem Live.append (h : Live B w b lab eb L n m D) (hn : n + 1 ≤ 2097152) (nm : Name) (pv : Option Addr) (cc : Nat) (data : List Int) (hv : Given w lab (.slice pv data.length cc) data) (hcc : data.length ≤ cc) (hm : m + data.length ≤ 4398046511104) (hd : ∀ x, x ∈ data → 0 ≤ x ∧ x < 256) :
    Calls Tryz.prog 13 #[dptr b, .string nm, .slice pv data.length cc] w fun e w' => e = .returned (errV eb (D.append nm data).1) ∧ Next B w lab w' b eb L (n + 1) (m + data.length) (D.append nm data).2 :=
  h.appendW nm pv cc data (.small hn hm) hv hcc hd
theorem Live.syncW (h : Live B w b lab eb L n m D) (hf : DFit (n + 1) m) (nm : Name) :
    Calls Tryz.prog 14 #[dptr b, .string nm] w fun e w' => e = .returned (errV eb (D.sync nm).1) ∧ Next B w lab w' b eb L (n + 1) m (D.sync nm).2 := by
  obtain ⟨A, h1⟩ := h.dsk
  refine (sync_calls h1 h.ers h.inv.wf h.bnd nm).mono ?_
  rintro e w' ⟨he, hx⟩
  exact ⟨he, h.next hx (h.inv.opSync nm) (h.sz.opSync nm) hf⟩
theorem Live.sync (h : Live B w b lab eb L n m D) (hn : n + 1 ≤ 2097152) (nm : Name) :
    Calls Tryz.prog 14 #[dptr b, .string nm] w fun e w' => e = .returned (errV eb (D.sync nm).1) ∧ Next B w lab w' b eb L (n + 1) m (D.sync nm).2 :=
  h.syncW (.small hn h.hm) nm
theorem Live.syncNamesW (h : Live B w b lab eb L n m D) (hf : DFit (n + 1) m) :
    Calls Tryz.prog 15 #[dptr b] w fun e w' => e = .returned (errV eb D.syncNames.1) ∧ Next B w lab w' b eb L (n + 1) m D.syncNames.2 := by
  obtain ⟨A, h1⟩ := h.dsk
  refine (syncnames_calls h1 h.ers h.inv.wf h.bnd).mono ?_
  rintro e w' ⟨he, hx⟩
  exact ⟨he, h.next hx h.inv.opSyncNames h.sz.opSyncNames hf⟩
theorem Live.syncNames (h : Live B w b lab eb L n m D) (hn : n + 1 ≤ 2097152) :
    Calls Tryz.prog 15 #[dptr b] w fun e w' => e = .returned (errV eb D.syncNames.1) ∧ Next B w lab w' b eb L (n + 1) m D.syncNames.2 :=
  h.syncNamesW (.small hn h.hm)
theorem Live.removeW (h : Live B w b lab eb L n m D) (hf : DFit (n + 1) m) (nm : Name) :
    Calls Tryz.prog 85 #[dptr b, .string nm] w fun e w' => e = .returned (errV eb (D.remove nm).1) ∧ Next B w lab w' b eb L (n + 1) m (D.remove nm).2 := by
  obtain ⟨A, h1⟩ := h.dsk
  refine (remove_calls h1 h.ers h.inv.wf h.bnd nm).mono ?_
  rintro e w' ⟨he, hx⟩
  exact ⟨he, h.next hx (h.inv.opRemove nm) (h.sz.opRemove nm) hf⟩
theorem Live.remove (h : Live B w b lab eb L n m D) (hn : n + 1 ≤ 2097152) (nm : Name) :
    Calls Tryz.prog 85 #[dptr b, .string nm] w fun e w' => e = .returned (errV eb (D.remove nm).1) ∧ Next B w lab w' b eb L (n + 1) m (D.remove nm).2 :=
  h.removeW (.small hn h.hm) nm
theorem Live.renameW (h : Live B w b lab eb L n m D) (hf : DFit (n + 1) m) (nm nm2 : Name) (hnm : nm2.size ≤ 9223372036854775807) :
    Calls Tryz.prog 84 #[dptr b, .string nm, .string nm2] w fun e w' => e = .returned (errV eb (D.rename nm nm2).1) ∧ Next B w lab w' b eb L (n + 1) m (D.rename nm nm2).2 := by
  obtain ⟨A, h1⟩ := h.dsk
  refine (rename_calls h1 h.ers h.inv.wf h.bnd nm nm2 hnm).mono ?_
  rintro e w' ⟨he, hx⟩
  exact ⟨he, h.next hx (h.inv.opRename nm nm2) (h.sz.opRename nm nm2) hf⟩
theorem Live.rename (h : Live B w b lab eb L n m D) (hn : n + 1 ≤ 2097152) (nm nm2 : Name) (hnm : nm2.size ≤ 9223372036854775807) :
    Calls Tryz.prog 84 #[dptr b, .string nm, .string nm2] w fun e w' => e = .returned (errV eb (D.rename nm nm2).1) ∧ Next B w lab w' b eb L (n + 1) m (D.rename nm nm2).2 :=
  h.renameW (.small hn h.hm) nm nm2 hnm
theorem Live.read (h : Live B w b lab eb L n m D) (nm : Name) :
    Calls Tryz.prog 45 #[dptr b, .string nm] w fun e w' => ∃ dv bv, e = .returned (.tuple #[dv, bv, errV eb (D.read nm).1]) ∧ w'.ownsRow w.heap.size 5 1 dv (D.read nm).2.1.length (u8s (D.read nm).2.1) ∧ w'.ownsRow w.heap.size 3 1 bv (D.read nm).2.2.length (i64s (D.read nm).2.2) ∧ Frm (fun _ => False) w w' := by
  obtain ⟨A, h1⟩ := h.dsk
  exact read_calls h1 h.ers h.inv h.bnd.len nm
theorem Live.waiting (h : Live B w b lab eb L n m D) :
    Calls Tryz.prog 16 #[dptr b] w fun e w' => e = .returned (.tuple #[.int .i64 D.waitingN, .int .i64 D.changes.length]) ∧ Frm (fun _ => False) w w' := by
  obtain ⟨A, h1⟩ := h.dsk
  exact waiting_calls h1 h.inv h.bnd.len (Nat.le_trans h.sz.files h.fit.fn) (h.fit.sum h.sz) h.bnd.changes
theorem Live.safe (h : Live B w b lab eb L n m D) :
    Calls Tryz.prog 31 #[dptr b] w fun e w' => ∃ v, e = .returned v ∧ ImgAt w' w.heap.size v (D.crash [] 0) ∧ Frm (fun _ => False) w w' := by
  obtain ⟨A, h1⟩ := h.dsk
  exact safe_calls h1 h.inv.wf h.inv h.bnd.len (Nat.le_trans h.sz.files h.fit.fn) (h.fit.sum h.sz) h.bnd.changes
theorem Live.crash (h : Live B w b lab eb L n m D) (fs : List Int) (k : Int) (p : Option Addr) (c : Nat) (hfs : ∀ j (hj : j < fs.length), ∃ ad, p = some ad ∧ w.cell? (ad.add j) = some (.int .i64 fs[j])) (hfl : fs.length ≤ 4611686018427387904) :
    Calls Tryz.prog 17 #[dptr b, .agg #[.slice p fs.length c, .int .i64 k]] w fun e w' => ∃ v, e = .returned v ∧ ImgAt w' w.heap.size v (D.crash fs k) ∧ Frm (fun _ => False) w w' := by
  obtain ⟨A, h1⟩ := h.dsk
  refine (crash_calls h1 h.inv.wf h.inv h.bnd.len (Nat.le_trans h.sz.files h.fit.fn) (h.fit.sum h.sz) h.bnd.changes fs k p c hfs hfl).mono ?_
  rintro e w' ⟨v, he, hx, hf⟩
  exact ⟨_, he, ImgAt.of hx, hf⟩
end
theorem Live.born {w : World} {eb : Nat → Addr} {L : List Err} (he : ErrsAt w.heap.size w eb L) : Live w.heap.size (wBorn w) (w.heap.size + 2) (bornLab w.heap.size) eb L 0 0 Disk.new :=
  ⟨⟨_, Go.Proofs.YtglhedahannjiaaGreatDoor.Dw.born w⟩, he.frm (Frm.of_below (born_below w) (fun _ => False)) (fun _ h => h.elim), Inv.new, Sz.new, .small (by decide) (by decide)⟩
end Go.Proofs.YtglhedahannjiaaGreatDoor.Dw

/- Walks: Names; Ops, Down and Names of no disk. -/
namespace Go.Proofs.YtglhedahannjiaaGreatDoor.Dm
/-- The names, in order. -/
def Disk.names (D : Disk) : Err × List (Name × Nat) := if D.off = true then (eDown, []) else (0, inOrder D.now)
end Go.Proofs.YtglhedahannjiaaGreatDoor.Dm
namespace Go.Proofs.YtglhedahannjiaaGreatDoor.Dw
open Go.RowKit Go.ChangeMaps Go.Proofs.YtglhedahannjiaaGreatDoor.Mp Go.Proofs.YtglhedahannjiaaGreatDoor.Dm Go.Proofs.YtglhedahannjiaaGreatDoor.Da
set_option linter.unusedVariables false
set_option linter.unusedSimpArgs false
set_option linter.unusedSectionVars false
set_option maxHeartbeats 1000000 in
set_option maxRecDepth 100000 in
theorem names_calls {B : Nat} {w : World} {b : Nat} {A : Adr} {lab : Nat → Option Lb} {D : Disk} {eb : Nat → Addr} {L : List Err} (h : DiskAt B w b A lab D) (he : ErrsAt B w eb L) (hi : Inv D) (hF : D.files.length ≤ 1099511627775) :
    Calls Tryz.prog 40 #[dptr b] w fun e w' => ∃ v, e = .returned (.tuple #[v, errV eb D.names.1]) ∧ w'.ownsRow w.heap.size 9 1 v D.names.2.length (strs D.names.2) ∧ Frm (fun _ => False) w w' := by
  have c8 : w.cell? ⟨b, 8, none⟩ = some (.bool D.off) := main_cell h.blk rfl
  have c0 : w.cell? ⟨b, 0, none⟩ = some (.map (some A.nm)) := main_cell h.blk rfl
  have hl := hi.now.len_le
  have KEY := Lib.hid (sorted_calls h.names hi.now.names (by omega))
  cases hoff : D.off with
  | true =>
    have hr : D.names = (eDown, []) := by unfold Disk.names; rw [if_pos hoff]
    rw [hr, errV_pos eb eDown (by decide)]
    rw [hoff] at c8
    have cd := he.down
    clear hr hoff h he hi KEY
    unfold dptr
    go_enter Tryz.func40, Tryz.ntmps40
    go_wp2
    go_quiet (fail)
    go_wp2
    go_ret2
    exact ⟨_, rfl, ⟨by simp [strs], .inl ⟨rfl, rfl⟩⟩, (by repeat (first | (with_reducible assumption) | (with_reducible exact Frm.refl _ _) | (with_reducible apply Frm.drewN) | (with_reducible apply Frm.drew) | (with_reducible apply Frm.alloc) | (with_reducible refine Frm.setCell ?_ _ _ (fun h => absurd h (by first | (simp; done) | (simp; omega))))))⟩
  | false =>
    have hr : D.names = (0, inOrder D.now) := by unfold Disk.names; rw [if_neg (by rw [hoff]; simp)]
    rw [hr, errV_zero]
    rw [hoff] at c8
    have hle : (inOrder D.now).length = D.now.length := (inOrder_perm _).length_eq
    have HLE := Lib.hid hle
    clear hr hoff h he hi hle
    unfold dptr
    go_enter Tryz.func40, Tryz.ntmps40
    go_wp2_with (first
      | (go_at_call 63; (with_reducible refine KEY.out.mono ?_); rintro e w1 ⟨p, c, rfl, hr1, hf1⟩; have HR := Lib.hid (And.intro hr1 hf1); clear hr1 hf1))
    go_ret2
    refine ⟨_, rfl, ?_, ?_⟩
    · rw [HLE.out]; exact HR.out.1
    · have hf := HR.out.2; exact hf
end Go.Proofs.YtglhedahannjiaaGreatDoor.Dw

/- Walks: Arm. -/
namespace Go.Proofs.YtglhedahannjiaaGreatDoor.Da
open Go.RowKit Go.ChangeMaps Go.Proofs.YtglhedahannjiaaGreatDoor.Mp Go.Proofs.YtglhedahannjiaaGreatDoor.Dm Go.Proofs.YtglhedahannjiaaGreatDoor.Dw
set_option linter.unusedVariables false
set_option linter.unusedSimpArgs false
set_option linter.unusedSectionVars false
/-- The row of the failures is another one, in new memory. -/
theorem DiskAt.setFails {B : Nat} {w w1 : World} {b : Nat} {A : Adr} {lab : Nat → Option Lb} {D : Disk} (h : DiskAt B w b A lab D) {v' : Value} {fs : List (Int × Int)} (hrow : w1.ownsRow w.heap.size 75 2 v' fs.length (fs.flatMap failCells)) (hf : Frm (fun _ => False) w w1) :
    DiskAt B (w1.setCell ⟨b, 6, none⟩ v') b { A with fv := v' } (moveLab lab .fails v'.ownBlock) { D with fails := fs } ∧ Frm (Ft lab) w (w1.setCell ⟨b, 6, none⟩ v') ∧
      (∀ k, k < w.heap.size → Ft (moveLab lab .fails v'.ownBlock) k → Ft lab k) := by
  have hv : ∀ g, v'.ownBlock = some g → w.heap.size ≤ g ∧ g < w1.heap.size := fun g hg => own_low hrow hg
  have hlow : ∀ i, v'.ownBlock = some i → lab i = some .fails ∨ lab i = none := by
    intro i hi
    right
    rcases hl : lab i with _ | p
    · rfl
    · have := (h.base i p hl).2
      have := (hv i hi).1
      omega
  have hml : ∀ k q, lab k = some q → q ≠ .fails → moveLab lab .fails v'.ownBlock k = some q := fun k q hl hq => moveLab_other hq hl hlow
  have hk1 : ∀ k q, lab k = some q → w1.heap[k]? = w.heap[k]? := fun k q hl => hf.block k (h.base k q hl).2 id
  have hk : ∀ k q, lab k = some q → q ≠ .main → (w1.setCell ⟨b, 6, none⟩ v').heap[k]? = w.heap[k]? := fun k q hl hm => by
    rw [blk_set_ne (ne_of_lab hl h.lb hm)]; exact hk1 k q hl
  have hbl := (h.base b _ h.lb).2
  have hgb : ∀ i, v'.ownBlock = some i → i ≠ b := fun i hi e => by have := (hv i hi).1; omega
  have hF : Ft lab b := by unfold Ft; rw [h.lb]; rfl
  have hb1 : w1.heap[b]? = some (.cells (mainCells A D) 88 (0, 0)) := by rw [hk1 _ _ h.lb]; exact h.blk
  refine ⟨⟨?_, hml _ _ h.lb (by simp), h.names.same (hk _ _ h.lnm (by simp)), hml _ _ h.lnm (by simp), h.sure.same (hk _ _ h.lsm (by simp)), hml _ _ h.lsm (by simp), ?_, ?_, ?_, ?_⟩, ?_, ?_⟩
  · rw [blk_set hb1]; simp [mainCells]
  · exact (h.waiting.same (fun k hl => hk k _ hl (by simp))).relab (fun k hl => hml k _ hl (by simp))
  · refine ⟨⟨hrow.1, ?_⟩, fun g hg' => by unfold moveLab; rw [if_pos hg'.symm]⟩
    rcases hrow.2 with h2 | ⟨g, cap, cur, hv', hg', hh, r⟩
    · exact .inl h2
    · exact .inr ⟨g, cap, cur, hv', Nat.zero_le _, by rw [blk_set_ne (hgb g (by rw [hv']; rfl))]; exact hh, r⟩
  · intro i f hf'
    exact ((h.files i f hf').same (fun k p hl hp => hk k p hl (by rcases hp with rfl | rfl | rfl | rfl | rfl | rfl <;> simp))).relab
      (fun k p hl hp => hml k p hl (by rcases hp with rfl | rfl | rfl | rfl | rfl | rfl <;> simp))
  · intro k p hl
    have hs : (w1.setCell ⟨b, 6, none⟩ v').heap.size = w1.heap.size := by simp
    rw [hs]
    have hB : B ≤ w.heap.size := Nat.le_of_lt (Nat.lt_of_le_of_lt (h.base b _ h.lb).1 hbl)
    have hsz := hf.size
    unfold moveLab at hl
    by_cases e : some k = v'.ownBlock
    · have := hv k e.symm
      omega
    · rw [if_neg e] at hl
      by_cases e2 : lab k = some .fails
      · rw [if_pos e2] at hl; cases hl
      · rw [if_neg e2] at hl
        have := h.base k p hl
        omega
  · exact Frm.setCell (hf.mono (fun _ _ h => h.elim)) _ _ (fun _ => hF)
  · intro k hk' hl
    unfold Ft moveLab at hl
    by_cases e : some k = v'.ownBlock
    · have := (hv k e.symm).1
      omega
    · rw [if_neg e] at hl
      by_cases e2 : lab k = some .fails
      · unfold Ft; rw [e2]; rfl
      · rw [if_neg e2] at hl; exact hl
end Go.Proofs.YtglhedahannjiaaGreatDoor.Da
namespace Go.Proofs.YtglhedahannjiaaGreatDoor.Dw
open Go.RowKit Go.ChangeMaps Go.Proofs.YtglhedahannjiaaGreatDoor.Mp Go.Proofs.YtglhedahannjiaaGreatDoor.Dm Go.Proofs.YtglhedahannjiaaGreatDoor.Da Go.Shelf
set_option linter.unusedVariables false
set_option linter.unusedSimpArgs false
set_option linter.unusedSectionVars false
/-- Failures come out of a slice. -/
def FailsAt (w : World) (v : Value) (fs : List (Int × Int)) : Prop := ∃ p c, v = .slice p fs.length c ∧ ∀ j u, (fs.flatMap failCells)[j]? = some u → ∃ a, p = some a ∧ w.cell? (a.add j) = some u
theorem FailsAt.frm {F : Nat → Prop} {w w' : World} {v : Value} {fs : List (Int × Int)} (h : FailsAt w v fs) (hf : Frm F w w') (hF : ∀ p n c, v = .slice (some p) n c → ¬ F p.block) : FailsAt w' v fs := by
  obtain ⟨p, c, rfl, h⟩ := h
  refine ⟨p, c, rfl, fun j u hu => ?_⟩
  obtain ⟨a, rfl, hc⟩ := h j u hu
  refine ⟨a, rfl, ?_⟩
  have hl := World.block_lt_of_cell? w _ hc
  rw [← hc]
  have hb : (a.add j).block = a.block := by unfold Addr.add; split <;> rfl
  exact World.cell?_of_block (hf.block _ hl (by rw [hb]; exact hF a _ _ rfl))
theorem fails_len (fs : List (Int × Int)) : (fs.flatMap failCells).length = fs.length * 2 := by
  induction fs with
  | nil => rfl
  | cons p l ih => simp only [List.flatMap_cons, List.length_append, ih, List.length_cons, failCells, List.length_nil]; omega
theorem fails_one (fs : List (Int × Int)) : ∀ u ∈ fs.flatMap failCells, u.oneCell' = true := by
  intro u hu
  obtain ⟨p, _, hp⟩ := List.mem_flatMap.1 hu
  simp only [failCells, List.mem_cons, List.not_mem_nil, or_false] at hp
  rcases hp with rfl | rfl <;> rfl
set_option maxHeartbeats 1000000 in
set_option maxRecDepth 100000 in
/-- A clone of failures: new memory. -/
theorem cloneF_calls (v : Value) (fs : List (Int × Int)) (w : World) (hv : FailsAt w v fs) (hn : fs.length ≤ 8796093022208) :
    Calls Tryz.prog 97 #[v] w fun e w' => ∃ p c, e = .returned (.slice p fs.length c) ∧ w'.ownsRow w.heap.size 75 2 (.slice p fs.length c) fs.length (fs.flatMap failCells) ∧ Frm (fun _ => False) w w' := by
  obtain ⟨p, c, rfl, hc⟩ := hv
  cases p with
  | none =>
    have h0 : fs = [] := by
      cases fs with
      | nil => rfl
      | cons q l =>
        obtain ⟨a, ha, _⟩ := hc 0 _ rfl
        cases ha
    subst h0
    refine (AnyE.slices_Clone_nil cloneF_lays _ c w).mono ?_
    rintro e w' ⟨rfl, rfl⟩
    exact ⟨_, _, rfl, ⟨by simp, .inl ⟨rfl, rfl⟩⟩, Frm.refl _ _⟩
  | some a =>
    obtain ⟨i0, hi0, hz0, hz1, hz2⟩ := info_parts failInfo
    have hmx : maxLen = 9223372036854775807 := by decide
    have HC : Hid (∀ j u, (fs.flatMap failCells)[j]? = some u → w.cell? (a.add j) = some u) := fun j u hu => by
      obtain ⟨a', e, h⟩ := hc j u hu
      cases e; exact h
    have q22 : ∀ (w : World) (a : Option Addr) (n c n' c' : Nat), (binOp .eql 53 (.slice a n c) (.slice none n' c')).run Tryz.prog w = .ok (.bool a.isNone) w := fun w a n c n' c' => Lib.run_eql_slice_nil w _ _ a n c n' c' Tryz.underlying53
    clear hc
    go_enter Tryz.func97, Tryz.ntmps97
    go_wp2_with (at_builtin; refine wpList_append_own _ rfl _ _ 53 rfl w.heap.size 75 i0 _ 2 16 Tryz.underlying53 hi0 hz0 hz1 hz2 rfl (by omega) _ _ _ rfl (World.ownsRow_made w #[] 0 (Nat.le_refl _) (Nat.zero_le _) (by simp)) a fs.length c (fs.flatMap failCells) rfl ?qc1 ?qc2 ?qc3 ?qc4 ?qc5 ?qc6 ?_)
    case qc1 => exact fails_len fs
    case qc2 =>
      intro j u hj
      exact Lib.cell?_alloc_some _ (HC.out j u hj)
    case qc3 => exact fails_one fs
    case qc4 => rw [Nat.zero_add]; omega
    case qc5 => rw [Nat.zero_add]; omega
    case qc6 => simp
    intro v' w1 hown hgrow hnil
    have hsh : ∃ p c, v' = .slice p fs.length c := by
      rcases hown.2 with ⟨h1, h2⟩ | ⟨g, cap, cur, h1, _⟩
      · exact ⟨_, _, by rw [h1, show fs.length = 0 by omega]⟩
      · exact ⟨_, _, h1⟩
    obtain ⟨p', c', rfl⟩ := hsh
    go_wp2
    go_ret
    refine ⟨p', c', rfl, by simpa using hown, ?_⟩
    exact ((Frm.refl _ w).alloc _).grown hgrow (by intro k hk; simp [Value.ownBlock] at hk; omega)
set_option maxHeartbeats 1000000 in
set_option maxRecDepth 100000 in
theorem arm_calls {B : Nat} {w : World} {b : Nat} {A : Adr} {lab : Nat → Option Lb} {D : Disk} (h : DiskAt B w b A lab D) (v : Value) (fs : List (Int × Int)) (cut : Int) (hv : FailsAt w v fs) (hn : fs.length ≤ 8796093022208) :
    Calls Tryz.prog 42 #[dptr b, v, .int .i64 cut] w fun e w' => e = .returned (.tuple #[]) ∧ Ext B b lab w w' (D.arm fs cut) := by
  have c8 : w.cell? ⟨b, 8, none⟩ = some (.bool D.off) := main_cell h.blk rfl
  obtain ⟨p, c, rfl, hc⟩ := id hv
  have KEY := Lib.hid (cloneF_calls (.slice p fs.length c) fs w hv hn)
  have H := Lib.hid h
  cases hoff : D.off with
  | true =>
    have e1 : D.arm fs cut = D := by unfold Disk.arm; rw [if_pos hoff]
    rw [e1]
    rw [hoff] at c8
    clear e1 h hv hc KEY hoff
    unfold dptr
    go_enter Tryz.func42, Tryz.ntmps42
    go_wp2
    refine bodyPost_ret (results_none rfl _ _ _) rfl ?_
    exact ⟨rfl, Ext.refl H.out⟩
  | false =>
    have e1 : D.arm fs cut = { D with fails := fs, cut := cut, since := 0 } := by unfold Disk.arm; rw [if_neg (by rw [hoff]; simp)]
    rw [e1]
    rw [hoff] at c8
    clear e1 h hv hc hoff
    unfold dptr
    go_enter Tryz.func42, Tryz.ntmps42
    go_wp2_with (first | (go_at_call 97; (with_reducible refine KEY.out.mono ?_); rintro e w1 ⟨p1, c1, rfl, hr1, hf1⟩; obtain ⟨g1, g2, g3⟩ := H.out.setFails hr1 hf1; have hb1 := (hf1.block b (Da.blk_lt H.out.blk) id).trans H.out.blk; have x5 := cell_of (i := 5) hb1 rfl; have x6 := cell_of (i := 6) hb1 rfl; have x7 := cell_of (i := 7) hb1 rfl; have y5 := frozen_of (i := 5) hb1; have y6 := frozen_of (i := 6) hb1; have y7 := frozen_of (i := 7) hb1; clear hb1; have HG := Lib.hid (And.intro g1 (And.intro g2 g3)); clear hr1 g1 g2 g3))
    go_end0
    obtain ⟨g1, g2, g3⟩ := HG.out
    have hl : ∀ k, k < w1.heap.size → k ≠ b → (((w1.setCell ⟨b, 6, none⟩ (.slice p1 fs.length c1)).setCell ⟨b, 7, none⟩ (.int .i64 cut)).setCell ⟨b, 5, none⟩ (.int .i64 0)).heap[k]? = (w1.setCell ⟨b, 6, none⟩ (.slice p1 fs.length c1)).heap[k]? := fun k _ hk => by
      rw [blk_set_ne hk, blk_set_ne hk]
    have gg := g1.scalar (D' := { D with fails := fs, cut := cut, since := 0 }) (by rw [blk_set (blk_set g1.blk)]; simp [mainCells]) (fun k hk hne => hl k (by simpa using hk) hne) (by simp) rfl rfl rfl rfl rfl
    refine ⟨rfl, _, _, gg, (g2.setCell _ _ (fun _ => ?_)).setCell _ _ (fun _ => ?_), g3⟩
    · unfold Ft; rw [H.out.lb]; rfl
    · unfold Ft; rw [H.out.lb]; rfl
end Go.Proofs.YtglhedahannjiaaGreatDoor.Dw
