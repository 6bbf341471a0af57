/- A part of the proof of diskKeptUpto_holds: Dp8, Fp, Dp9, Fq. No condition. -/
import Derived.Test.YtglhedahannjiaaGreatDoorC29

/- The pure disk: all files and the names synced. -/
namespace Go.Proofs.YtglhedahannjiaaGreatDoor.Dm
set_option linter.unusedVariables false
/-- Nothing is told to fail. -/
structure Quiet (D : Disk) : Prop where
  off : D.off = false
  fails : D.fails = []
  cut : D.cut = 0
theorem Quiet.run {D : Disk} (h : Quiet D) (refused : Err) (act : Disk → Disk) (waits : Bool) (part : Option (Int → Disk → Disk)) : D.run refused act waits part = if refused = 0 then (0, act D.tick) else (refused, D.tick) := by
  unfold Disk.run
  rw [if_neg (by rw [h.off]; simp)]
  have : D.tick.armed = .goes := by
    unfold Disk.armed Disk.tick
    simp only [h.cut, h.fails, List.find?_nil]
    rw [if_neg (by omega)]
  rw [this]
theorem fresh_quiet (D : Disk) : Quiet D.fresh := by
  refine ⟨fresh_off D, ?_, ?_⟩
  all_goals
    unfold Disk.fresh
    by_cases h : D.off = true
    · rw [if_pos h]; rfl
    · rw [if_neg h]; unfold Disk.arm; rw [if_neg h]
def syncs (D : Disk) (ns : List Name) : Disk := ns.foldl (fun D n => (D.sync n).2) D
theorem syncs_snoc (D : Disk) (ns : List Name) (n : Name) : syncs D (ns ++ [n]) = ((syncs D ns).sync n).2 := by unfold syncs; rw [List.foldl_append]; rfl
structure Synced (D E : Disk) (l : List (Name × Nat)) : Prop where
  quiet : Quiet E
  now : E.now = D.now
  sure : E.sure = D.sure
  changes : E.changes = D.changes
  len : E.files.length = D.files.length
  count : E.count = D.count + l.length
  file : ∀ i, E.file i = if i ∈ l.map (·.2) then (D.file i).sync else D.file i
theorem Synced.none {D : Disk} (h : Quiet D) : Synced D D [] := ⟨h, rfl, rfl, rfl, rfl, rfl, fun i => by simp⟩
theorem file_modify (D : Disk) (i j : Nat) (hi : i < D.files.length) (g : FileS → FileS) : (D.modify i g).file j = if i = j then g (D.file j) else D.file j := by
  unfold Disk.file Disk.modify
  simp only [List.getElem?_modify]
  by_cases h : i = j
  · subst h
    rw [if_pos rfl, List.getElem?_eq_getElem hi]; simp
  · rw [if_neg h]
    cases D.files[j]? <;> simp [h]
theorem Synced.next {D E : Disk} {l : List (Name × Nat)} (h : Synced D E l) (p : Name × Nat) (hp : find D.now p.1 = some p.2) (hlt : p.2 < D.files.length) : (E.sync p.1).1 = 0 ∧ Synced D (E.sync p.1).2 (l ++ [p]) := by
  have hf : find E.now p.1 = some p.2 := by rw [h.now]; exact hp
  have hg : E.gone p.1 = 0 := by unfold Disk.gone; rw [hf]; rfl
  have e : E.sync p.1 = (0, E.tick.modify p.2 FileS.sync) := by
    unfold Disk.sync
    rw [h.quiet.run, if_pos hg]
    unfold Disk.onFile
    rw [tick_now, hf]
  rw [e]
  refine ⟨rfl, ⟨⟨h.quiet.off, h.quiet.fails, h.quiet.cut⟩, h.now, h.sure, h.changes, by show (E.files.modify _ _).length = _; rw [List.length_modify]; exact h.len, by show E.count + 1 = _; rw [h.count, List.length_append]; rfl, fun i => ?_⟩⟩
  show (E.tick.modify p.2 FileS.sync).file i = _
  rw [file_modify _ _ _ (by show p.2 < E.files.length; rw [h.len]; exact hlt)]
  show (if p.2 = i then (E.file i).sync else E.file i) = _
  rw [h.file i]
  simp only [List.map_append, List.map_cons, List.map_nil, List.mem_append, List.mem_singleton]
  by_cases h1 : p.2 = i
  · have hin : i ∈ l.map (·.2) ∨ i = p.2 := Or.inr h1.symm
    rw [if_pos h1, if_pos hin]
    by_cases h2 : i ∈ l.map (·.2)
    · rw [if_pos h2]; rfl
    · rw [if_neg h2]
  · rw [if_neg h1]
    by_cases h2 : i ∈ l.map (·.2)
    · have hin : i ∈ l.map (·.2) ∨ i = p.2 := Or.inl h2
      rw [if_pos h2, if_pos hin]
    · have hin : ¬ (i ∈ l.map (·.2) ∨ i = p.2) := fun h3 => h3.elim h2 fun h3 => h1 h3.symm
      rw [if_neg h2, if_neg hin]
/-- All files, then the names: what is behind it. -/
theorem Synced.last {D E : Disk} (hi : Inv D) (hq : Quiet D) (h : Synced D E (inOrder D.now)) (hE : Inv E.syncNames.2) : E.syncNames.1 = 0 ∧ E.syncNames.2.off = false ∧ E.syncNames.2.count = D.count + D.now.length + 1 ∧ E.syncNames.2.waitingN = 0 ∧ E.syncNames.2.changes = [] ∧ E.syncNames.2.seenImg = D.seenImg ∧ ∀ fs k, E.syncNames.2.crash fs k = D.seenImg := by
  have hr : E.syncNames = (0, E.tick.doSyncNames) := by unfold Disk.syncNames; rw [h.quiet.run, if_pos rfl]
  rw [hr] at hE ⊢
  simp only [] at hE ⊢
  have hfile : ∀ i, E.tick.doSyncNames.file i = if i ∈ (inOrder D.now).map (·.2) then (D.file i).sync else D.file i := h.file
  have hnow : E.tick.doSyncNames.now = D.now := h.now
  have hsure : E.tick.doSyncNames.sure = D.now := by
    rw [← hi.left]
    show (E.changes.take E.changes.length).foldl apply E.sure = _
    rw [h.changes, h.sure]; rfl
  have hin : ∀ p, p ∈ inOrder D.now → E.tick.doSyncNames.file p.2 = (D.file p.2).sync := fun p hp => by rw [hfile, if_pos (List.mem_map_of_mem hp)]
  have hw : ∀ p, p ∈ inOrder D.now → waitList (E.tick.doSyncNames.file p.2) = [] := fun p hp => by rw [hin p hp]; unfold waitList FileS.sync; simp
  have hoff : D.seenImg = (inOrder D.now).map fun p => plain p.1 ⟨(D.file p.2).seen, (D.file p.2).badSeen⟩ := by
    unfold Disk.seenImg
    rw [if_neg (by rw [hq.off]; simp)]
  refine ⟨trivial, h.quiet.off, ?_, ?_, rfl, ?_, fun fs k => ?_⟩
  · show E.count + 1 = _
    rw [h.count, (inOrder_perm _).length_eq]
  · unfold Disk.waitingN
    rw [hnow, List.map_congr_left (g := fun _ => 0) fun p hp => by rw [hw p ((inOrder_perm _).mem_iff.2 hp)]; rfl]
    rw [List.map_const', List.sum_replicate_nat, Nat.mul_zero]
  · rw [hoff]
    unfold Disk.seenImg
    rw [if_neg (by rw [show E.tick.doSyncNames.off = false from h.quiet.off]; simp), hnow]
    exact List.map_congr_left fun p hp => by rw [hin p hp]; rfl
  · obtain ⟨c, _, e⟩ := crash_eq hE fs k
    have el : E.tick.doSyncNames.left k.toNat = D.now := by
      have : E.tick.doSyncNames.left k.toNat = E.tick.doSyncNames.sure := by unfold Disk.left; rw [show E.tick.doSyncNames.changes = [] from rfl]; simp
      rw [this, hsure]
    rw [e, el, hoff]
    refine List.map_congr_left fun p hp => ?_
    have hk : ((D.file p.2).sync).safe.length ≤ ((D.file p.2).sync).seen.length := Nat.le_refl _
    rw [hw p hp, hin p hp, fated_lost _ hk (fun x hx => by simp [fatesFrom] at hx)]
    rfl
end Go.Proofs.YtglhedahannjiaaGreatDoor.Dm

/- A disk that turns, and what is held beside it. -/
namespace Go.Proofs.YtglhedahannjiaaGreatDoor.Dw
open Go.RowKit Go.ChangeMaps Go.Proofs.YtglhedahannjiaaGreatDoor.Mp Go.Proofs.YtglhedahannjiaaGreatDoor.Dm Go.Proofs.YtglhedahannjiaaGreatDoor.Da
open Go.Proofs.YtglhedahannjiaaGreatDoorW.PrintWords (Kd ReadsInt)
set_option linter.unusedVariables false
set_option linter.unusedSimpArgs false
set_option linter.unusedSectionVars false
theorem ImgAt.keep {w W : World} {base : Nat} {v : Value} {l : List Plain} {F : Nat → Prop} (h : ImgAt w base v l) (hf : Frm F w W) (hF : ∀ k, F k → k < base) : ImgAt W base v l := by
  obtain ⟨A, c, e, h⟩ := h
  refine ⟨A, c, e, ?_⟩
  have h1 := Kd.R_bound h
  exact Kd.R_mono (Kd.R_step h1 (fun k hk hlt => hf.block k hlt (fun hF' => by have := hF k hF'; have := hk.2.1; omega))) (fun _ hk => hk.1)
section
variable {B : Nat} {w0 w : World} {b : Nat} {lab : Nat → Option Lb} {eb : Nat → Addr} {n m : Nat} {D : Disk}
theorem Live.lab_lt (h : Live B w b lab eb l7 n m D) : ∀ k, Ft lab k → k < w.heap.size := by
  obtain ⟨A, h1⟩ := h.dsk
  intro k hk
  obtain ⟨p, hp⟩ := Option.isSome_iff_exists.1 hk
  exact (h1.base k p hp).2
theorem Live.self (h : Live B w b lab eb l7 n m D) : Next B w lab w b eb l7 n m D := h.stay (Frm.refl _ _)
theorem Next.then_ (h : Next B w0 lab w b eb l7 n m D) : ∃ lab1, Live B w b lab1 eb l7 n m D ∧ ∀ {w2 n' m' D'}, Next B w lab1 w2 b eb l7 n' m' D' → Next B w0 lab w2 b eb l7 n' m' D' := by
  obtain ⟨lab1, h1, h2, h3⟩ := h
  refine ⟨lab1, h1, fun {w2 n' m' D'} h => ?_⟩
  obtain ⟨lab2, k1, k2, k3⟩ := h
  exact ⟨lab2, k1, h2.trans k2 (fun k hk hl => h3 k hk hl), fun k hk hl => h3 k hk (k3 k (Nat.lt_of_lt_of_le hk h2.size) hl)⟩
theorem Next.frmF (h : Next B w0 lab w b eb l7 n m D) : Frm (Ft lab) w0 w := h.choose_spec.2.1
theorem Next.on (h : Next B w0 lab w b eb l7 n m D) {w2 : World} (hf : Frm (fun _ => False) w w2) : Next B w0 lab w2 b eb l7 n m D := by
  obtain ⟨lab1, h1, h2⟩ := h.then_
  exact h2 (h1.stay hf)
theorem Next.inv (h : Next B w0 lab w b eb l7 n m D) : Inv D := h.choose_spec.1.inv
theorem Next.sz (h : Next B w0 lab w b eb l7 n m D) : Sz n m D := h.choose_spec.1.sz
theorem Next.seenOk (h : Next B w0 lab w b eb l7 n m D) : ImgOk D.seenImg := imgOk_of (seen_img h.inv) (seen_len h.inv h.sz.len).2 (by have := h.choose_spec.1.hm; omega)
theorem Next.crashOk (h : Next B w0 lab w b eb l7 n m D) (fs : List Int) (k : Int) : ImgOk (D.crash fs k) := imgOk_of (crash_img h.inv fs k) (crash_len h.inv fs k h.sz.len).2 (by have := h.choose_spec.1.hm; omega)
theorem Next.syncC (h : Next B w0 lab w b eb l7 n m D) (hf : DFit (n + 1) m) (nm : Name) :
    Calls Tryz.prog 14 #[dptr b, .string nm] w fun e w' => e = .returned (errV eb (D.sync nm).1) ∧ Next B w0 lab w' b eb l7 (n + 1) m (D.sync nm).2 := by
  obtain ⟨lab1, h1, h2⟩ := h.then_
  exact (h1.syncW hf nm).mono (by rintro e w' ⟨e1, e2⟩; exact ⟨e1, h2 e2⟩)
theorem Next.syncNamesC (h : Next B w0 lab w b eb l7 n m D) (hf : DFit (n + 1) m) :
    Calls Tryz.prog 15 #[dptr b] w fun e w' => e = .returned (errV eb D.syncNames.1) ∧ Next B w0 lab w' b eb l7 (n + 1) m D.syncNames.2 := by
  obtain ⟨lab1, h1, h2⟩ := h.then_
  exact (h1.syncNamesW hf).mono (by rintro e w' ⟨e1, e2⟩; exact ⟨e1, h2 e2⟩)
theorem Next.seenC (h : Next B w0 lab w b eb l7 n m D) :
    Calls Tryz.prog 29 #[dptr b] w fun e w' => ∃ A c, e = .returned (.agg #[.slice A D.seenImg.length c]) ∧ ImgAt w' w.heap.size (.agg #[.slice A D.seenImg.length c]) D.seenImg ∧ Frm (fun _ => False) w w' := by
  obtain ⟨lab1, h1, h2⟩ := h.then_
  refine h1.seen.mono ?_
  rintro e w' ⟨v, rfl, hv, hf⟩
  obtain ⟨A, c, rfl, _⟩ := id hv
  exact ⟨A, c, rfl, hv, hf⟩
theorem Next.safeC (h : Next B w0 lab w b eb l7 n m D) :
    Calls Tryz.prog 31 #[dptr b] w fun e w' => ∃ A c, e = .returned (.agg #[.slice A (D.crash [] 0).length c]) ∧ ImgAt w' w.heap.size (.agg #[.slice A (D.crash [] 0).length c]) (D.crash [] 0) ∧ Frm (fun _ => False) w w' := by
  obtain ⟨lab1, h1, h2⟩ := h.then_
  refine h1.safe.mono ?_
  rintro e w' ⟨v, rfl, hv, hf⟩
  obtain ⟨A, c, rfl, _⟩ := id hv
  exact ⟨A, c, rfl, hv, hf⟩
theorem Next.crashC (h : Next B w0 lab w b eb l7 n m D) (fs : List Int) (k : Int) (p : Option Addr) (c : Nat) (hfs : ∀ j (hj : j < fs.length), ∃ ad, p = some ad ∧ w.cell? (ad.add j) = some (.int .i64 fs[j])) (hfl : fs.length ≤ 4611686018427387904) :
    Calls Tryz.prog 17 #[dptr b, .agg #[.slice p fs.length c, .int .i64 k]] w fun e w' => ∃ A c, e = .returned (.agg #[.slice A (D.crash fs k).length c]) ∧ ImgAt w' w.heap.size (.agg #[.slice A (D.crash fs k).length c]) (D.crash fs k) ∧ Frm (fun _ => False) w w' := by
  obtain ⟨lab1, h1, h2⟩ := h.then_
  refine (h1.crash fs k p c hfs hfl).mono ?_
  rintro e w' ⟨v, rfl, hv, hf⟩
  obtain ⟨A, c, rfl, _⟩ := id hv
  exact ⟨A, c, rfl, hv, hf⟩
theorem Next.waitingC (h : Next B w0 lab w b eb l7 n m D) :
    Calls Tryz.prog 16 #[dptr b] w fun e w' => e = .returned (.tuple #[.int .i64 D.waitingN, .int .i64 D.changes.length]) ∧ Frm (fun _ => False) w w' := by
  obtain ⟨lab1, h1, h2⟩ := h.then_
  exact h1.waiting
theorem Next.opsC (h : Next B w0 lab w b eb l7 n m D) : Calls Tryz.prog 33 #[dptr b] w fun e w' => e = .returned (.int .i64 D.count) ∧ w' = w := by
  obtain ⟨lab1, h1, h2⟩ := h.then_
  exact h1.ops
theorem Next.downC (h : Next B w0 lab w b eb l7 n m D) : Calls Tryz.prog 35 #[dptr b] w fun e w' => e = .returned (.bool D.off) ∧ w' = w := by
  obtain ⟨lab1, h1, h2⟩ := h.then_
  exact h1.down
theorem Next.namesC (h : Next B w0 lab w b eb l7 n m D) :
    Calls Tryz.prog 40 #[dptr b] w fun e w' => ∃ p c, e = .returned (.tuple #[.slice p D.names.2.length c, errV eb D.names.1]) ∧ w'.ownsRow w.heap.size 9 1 (.slice p D.names.2.length c) D.names.2.length (strs D.names.2) ∧ Frm (fun _ => False) w w' := by
  obtain ⟨lab1, h1, h2⟩ := h.then_
  refine h1.names.mono ?_
  rintro e w' ⟨v, rfl, hv, hf⟩
  obtain ⟨p, c, rfl⟩ := own_form hv
  exact ⟨p, c, rfl, hv, hf⟩
theorem Next.armC (h : Next B w0 lab w b eb l7 n m D) (v : Value) (fs : List (Int × Int)) (cut : Int) (hv : FailsAt w v fs) (hn : fs.length ≤ 8796093022208) :
    Calls Tryz.prog 42 #[dptr b, v, .int .i64 cut] w fun e w' => e = .returned (.tuple #[]) ∧ Next B w0 lab w' b eb l7 n m (D.arm fs cut) := by
  obtain ⟨lab1, h1, h2⟩ := h.then_
  exact (h1.arm v fs cut hv hn).mono (by rintro e w' ⟨e1, e2⟩; exact ⟨e1, h2 e2⟩)
theorem Next.readC (h : Next B w0 lab w b eb l7 n m D) (nm : Name) :
    Calls Tryz.prog 45 #[dptr b, .string nm] w fun e w' => ∃ dv bv, e = .returned (.tuple #[dv, bv, errV eb (D.read nm).1]) ∧ w'.ownsRow w.heap.size 5 1 dv (D.read nm).2.1.length (u8s (D.read nm).2.1) ∧ w'.ownsRow w.heap.size 3 1 bv (D.read nm).2.2.length (i64s (D.read nm).2.2) ∧ Frm (fun _ => False) w w' := by
  obtain ⟨lab1, h1, h2⟩ := h.then_
  exact h1.read nm
end
end Go.Proofs.YtglhedahannjiaaGreatDoor.Dw

/- The pure disk: an operation that is told to fail. -/
namespace Go.Proofs.YtglhedahannjiaaGreatDoor.Dm
set_option linter.unusedVariables false
theorem sidesBy_congr {D E : Disk} (h : ∀ i, E.file i = D.file i) (fs : List Int) : ∀ (l : List (Name × Nat)) (c : Nat), sidesBy E fs l c = sidesBy D fs l c
  | [], _ => rfl
  | p :: l, c => by unfold sidesBy; rw [h, sidesBy_congr h fs l]
/-- What a look tells of a disk hangs on four of its parts. -/
structure Alike (D E : Disk) : Prop where
  files : E.files = D.files
  now : E.now = D.now
  sure : E.sure = D.sure
  changes : E.changes = D.changes
  off : E.off = D.off
theorem Alike.refl (D : Disk) : Alike D D := ⟨rfl, rfl, rfl, rfl, rfl⟩
theorem Alike.file {D E : Disk} (h : Alike D E) (i : Nat) : E.file i = D.file i := by unfold Disk.file; rw [h.files]
theorem Alike.crash {D E : Disk} (h : Alike D E) (fs : List Int) (k : Int) : E.crash fs k = D.crash fs k := by
  have hl : ∀ j, E.left j = D.left j := fun j => by unfold Disk.left; rw [h.sure, h.changes]
  unfold Disk.crash
  rw [hl]
  exact List.map_congr_left fun p _ => by rw [sidesBy_congr h.file]
theorem Alike.seen {D E : Disk} (h : Alike D E) : E.seenImg = D.seenImg := by
  unfold Disk.seenImg
  rw [h.off, h.now]
  split
  · rfl
  · exact List.map_congr_left fun p _ => by rw [h.file]
/-- All that waits is lost. -/
theorem crash_lost {D : Disk} (h : Inv D) : D.crash [] 0 = (inOrder D.sure).map fun p => plain p.1 ⟨(D.file p.2).safe, (D.file p.2).badSafe⟩ := by
  obtain ⟨c, _, e⟩ := crash_eq h [] 0
  have el : D.left (0 : Int).toNat = D.sure := by simp [Disk.left]
  rw [e, el]
  refine List.map_congr_left fun p _ => ?_
  rw [fated_lost _ (h.fileOk p.2).sub (fun x hx => by simp [fatesFrom] at hx; exact hx.2.symm)]
/-- A file in an image. -/
def looked (l : List Plain) (n : Name) : Option Plain := l.find? fun p => decide (p.name = n)
theorem looked_seen {D : Disk} (hi : Inv D) (hoff : D.off = false) (n : Name) : looked D.seenImg n = (find D.now n).map fun i => plain n ⟨(D.file i).seen, (D.file i).badSeen⟩ := by
  have e : D.seenImg = (inOrder D.now).map fun p => plain p.1 ⟨(D.file p.2).seen, (D.file p.2).badSeen⟩ := by
    unfold Disk.seenImg; rw [if_neg (by rw [hoff]; simp)]
  have hn : ((inOrder D.now).map (·.1)).Nodup := ((inOrder_perm D.now).map (·.1)).nodup_iff.2 hi.now.names
  have hf : ∀ i, find (inOrder D.now) n = some i ↔ find D.now n = some i := fun i => by
    rw [find_iff hn, find_iff hi.now.names]; exact (inOrder_perm D.now).mem_iff
  have hff : find (inOrder D.now) n = find D.now n := by
    cases h1 : find (inOrder D.now) n with
    | some i => exact ((hf i).1 h1).symm
    | none =>
      cases h2 : find D.now n with
      | none => rfl
      | some i => rw [(hf i).2 h2] at h1; cases h1
  rw [e, ← hff]
  unfold looked find
  rw [List.find?_map]
  have : ((fun p : Plain => decide (p.name = n)) ∘ fun p : Name × Nat => plain p.1 ⟨(D.file p.2).seen, (D.file p.2).badSeen⟩) = fun p : Name × Nat => decide (p.1 = n) := rfl
  rw [this]
  cases h : (inOrder D.now).find? fun p => decide (p.1 = n) with
  | none => rfl
  | some p =>
    have hp := List.find?_some h
    have : p.1 = n := of_decide_eq_true hp
    subst this; rfl
theorem run_fails {D : Disk} (hoff : D.off = false) (p : Int) (ref : Err) (act : Disk → Disk) (wt : Bool) (part : Option (Int → Disk → Disk)) : (D.arm [(1, p)] 0).run ref act wt part = (eIo, failTo ref p part (D.arm [(1, p)] 0).tick) := by
  have e : D.arm [(1, p)] 0 = { D with fails := [(1, p)], cut := 0, since := 0 } := by unfold Disk.arm; rw [if_neg (by rw [hoff]; simp)]
  rw [e]
  unfold Disk.run
  rw [if_neg (by rw [hoff]; simp)]
  have ha : ({ D with fails := [(1, p)], cut := 0, since := 0 } : Disk).tick.armed = .fails p := rfl
  rw [ha]
theorem arm_alike {D : Disk} (fs : List (Int × Int)) (cut : Int) : Alike D (D.arm fs cut).tick := by
  unfold Disk.arm
  split
  · exact ⟨rfl, rfl, rfl, rfl, rfl⟩
  · exact ⟨rfl, rfl, rfl, rfl, rfl⟩
theorem arm_count {D : Disk} (fs : List (Int × Int)) (cut : Int) : (D.arm fs cut).count = D.count := by unfold Disk.arm; split <;> rfl
theorem arm_now {D : Disk} (fs : List (Int × Int)) (cut : Int) : (D.arm fs cut).now = D.now := by unfold Disk.arm; split <;> rfl
theorem add_nil (f : FileS) : f.add [] = f := by unfold FileS.add; rw [if_pos rfl]
theorem modify_id {α : Type} (l : List α) (i : Nat) (g : α → α) (h : ∀ x, g x = x) : l.modify i g = l := by
  have : g = id := funext h
  rw [this]; exact List.modify_id ..
/-- An operation that is told to fail. -/
theorem ask_fails {D : Disk} (hi : Inv D) (hoff : D.off = false) (o : OpS) (p : Int) (h1 : 1 ≤ o.kind) (h7 : o.kind ≤ 7) :
    ((D.arm [(1, p)] 0).ask o).1.e = 6 ∧ ((D.arm [(1, p)] 0).ask o).2.count = D.count + 1 ∧ ((D.arm [(1, p)] 0).ask o).2.off = false ∧
    (o.kind ≠ 2 ∨ looked D.seenImg o.name = none ∨ p ≤ 0 → Alike D ((D.arm [(1, p)] 0).ask o).2) ∧
    (∀ q, o.kind = 2 → looked D.seenImg o.name = some q → 0 < p → ((D.arm [(1, p)] 0).ask o).2 = Disk.onFile o.name (FileS.add (o.data.take p.toNat)) (D.arm [(1, p)] 0).tick) := by
  have hal := arm_alike (D := D) [(1, p)] 0
  have hct : (D.arm [(1, p)] 0).tick.count = D.count + 1 := by show (D.arm [(1, p)] 0).count + 1 = _; rw [arm_count]
  have hof : (D.arm [(1, p)] 0).tick.off = false := by rw [hal.off]; exact hoff
  by_cases h2 : o.kind = 2
  · have ea : (D.arm [(1, p)] 0).ask o = ({ e := ((D.arm [(1, p)] 0).append o.name o.data).1 }, ((D.arm [(1, p)] 0).append o.name o.data).2) := by
      unfold Disk.ask; rw [if_neg (by omega), if_pos h2]
    have er : (D.arm [(1, p)] 0).append o.name o.data = (eIo, failTo ((D.arm [(1, p)] 0).gone o.name) p (some fun p => Disk.onFile o.name (FileS.add (o.data.take p.toNat))) (D.arm [(1, p)] 0).tick) := run_fails hoff p _ _ _ _
    rw [ea, er]
    simp only []
    have hgone : (D.arm [(1, p)] 0).gone o.name = D.gone o.name := by unfold Disk.gone; rw [arm_now]
    have hl := looked_seen hi hoff o.name
    cases hfd : find D.now o.name with
    | none =>
      rw [hfd] at hl
      have hg : (D.arm [(1, p)] 0).gone o.name = eGone := by rw [hgone]; unfold Disk.gone; rw [hfd]; rfl
      have e : failTo ((D.arm [(1, p)] 0).gone o.name) p (some fun p => Disk.onFile o.name (FileS.add (o.data.take p.toNat))) (D.arm [(1, p)] 0).tick = (D.arm [(1, p)] 0).tick := by rw [hg]; rfl
      rw [e]
      exact ⟨trivial, hct, hof, fun _ => hal, fun q _ hq _ => by rw [hl] at hq; cases hq⟩
    | some i =>
      rw [hfd] at hl
      have hg : (D.arm [(1, p)] 0).gone o.name = 0 := by rw [hgone]; unfold Disk.gone; rw [hfd]; rfl
      have e : failTo ((D.arm [(1, p)] 0).gone o.name) p (some fun p => Disk.onFile o.name (FileS.add (o.data.take p.toNat))) (D.arm [(1, p)] 0).tick = Disk.onFile o.name (FileS.add (o.data.take p.toNat)) (D.arm [(1, p)] 0).tick := by rw [hg]; rfl
      rw [e]
      have eo : Disk.onFile o.name (FileS.add (o.data.take p.toNat)) (D.arm [(1, p)] 0).tick = (D.arm [(1, p)] 0).tick.modify i (FileS.add (o.data.take p.toNat)) := by
        unfold Disk.onFile; rw [tick_now, arm_now, hfd]
      refine ⟨trivial, by rw [eo]; exact hct, by rw [eo]; exact hof, fun h => ?_, fun q _ _ _ => rfl⟩
      rcases h with h | h | h
      · exact absurd h2 h
      · rw [hl] at h; cases h
      · rw [eo, show p.toNat = 0 by omega, List.take_zero]
        refine ⟨?_, hal.now, hal.sure, hal.changes, hal.off⟩
        show (D.arm [(1, p)] 0).tick.files.modify i (FileS.add []) = _
        rw [modify_id _ _ _ add_nil]; exact hal.files
  · have hk : o.kind = 1 ∨ o.kind = 3 ∨ o.kind = 4 ∨ o.kind = 5 ∨ o.kind = 6 ∨ o.kind = 7 := by omega
    have key : ((D.arm [(1, p)] 0).ask o).1.e = 6 ∧ ((D.arm [(1, p)] 0).ask o).2 = (D.arm [(1, p)] 0).tick := by
      rcases hk with h | h | h | h | h | h
      · have ea : (D.arm [(1, p)] 0).ask o = ({ e := ((D.arm [(1, p)] 0).create o.name).1 }, ((D.arm [(1, p)] 0).create o.name).2) := by unfold Disk.ask; rw [if_pos h]
        rw [ea, show (D.arm [(1, p)] 0).create o.name = (eIo, (D.arm [(1, p)] 0).tick) from run_fails hoff p _ _ _ none]; exact ⟨rfl, rfl⟩
      · have ea : (D.arm [(1, p)] 0).ask o = ({ e := ((D.arm [(1, p)] 0).sync o.name).1 }, ((D.arm [(1, p)] 0).sync o.name).2) := by unfold Disk.ask; rw [if_neg (by omega), if_neg (by omega), if_pos h]
        rw [ea, show (D.arm [(1, p)] 0).sync o.name = (eIo, (D.arm [(1, p)] 0).tick) from run_fails hoff p _ _ _ none]; exact ⟨rfl, rfl⟩
      · have ea : (D.arm [(1, p)] 0).ask o = ({ e := ((D.arm [(1, p)] 0).truncate o.name o.n).1 }, ((D.arm [(1, p)] 0).truncate o.name o.n).2) := by unfold Disk.ask; rw [if_neg (by omega), if_neg (by omega), if_neg (by omega), if_pos h]
        rw [ea, show (D.arm [(1, p)] 0).truncate o.name o.n = (eIo, (D.arm [(1, p)] 0).tick) from run_fails hoff p _ _ _ none]; exact ⟨rfl, rfl⟩
      · have ea : (D.arm [(1, p)] 0).ask o = ({ e := ((D.arm [(1, p)] 0).rename o.name o.to_).1 }, ((D.arm [(1, p)] 0).rename o.name o.to_).2) := by unfold Disk.ask; rw [if_neg (by omega), if_neg (by omega), if_neg (by omega), if_neg (by omega), if_pos h]
        rw [ea, show (D.arm [(1, p)] 0).rename o.name o.to_ = (eIo, (D.arm [(1, p)] 0).tick) from run_fails hoff p _ _ _ none]; exact ⟨rfl, rfl⟩
      · have ea : (D.arm [(1, p)] 0).ask o = ({ e := ((D.arm [(1, p)] 0).remove o.name).1 }, ((D.arm [(1, p)] 0).remove o.name).2) := by unfold Disk.ask; rw [if_neg (by omega), if_neg (by omega), if_neg (by omega), if_neg (by omega), if_neg (by omega), if_pos h]
        rw [ea, show (D.arm [(1, p)] 0).remove o.name = (eIo, (D.arm [(1, p)] 0).tick) from run_fails hoff p _ _ _ none]; exact ⟨rfl, rfl⟩
      · have ea : (D.arm [(1, p)] 0).ask o = ({ e := (D.arm [(1, p)] 0).syncNames.1 }, (D.arm [(1, p)] 0).syncNames.2) := by unfold Disk.ask; rw [if_neg (by omega), if_neg (by omega), if_neg (by omega), if_neg (by omega), if_neg (by omega), if_neg (by omega), if_pos h]
        rw [ea, show (D.arm [(1, p)] 0).syncNames = (eIo, (D.arm [(1, p)] 0).tick) from run_fails hoff p _ _ _ none]; exact ⟨rfl, rfl⟩
    rw [key.2]
    exact ⟨key.1, hct, hof, fun _ => hal, fun q h => absurd h h2⟩
/-- An append that fails behind its first bytes. -/
theorem append_fails {D : Disk} (hi : Inv D) (hoff : D.off = false) (n : Name) (x : List Int) (fs : List (Int × Int)) (cut : Int) {q : Plain} (hq : looked D.seenImg n = some q) (hE : Inv (Disk.onFile n (FileS.add x) (D.arm fs cut).tick)) :
    ∃ bs, (Disk.onFile n (FileS.add x) (D.arm fs cut).tick).read n = (0, q.data ++ x, bs) ∧ (Disk.onFile n (FileS.add x) (D.arm fs cut).tick).crash [] 0 = D.crash [] 0 := by
  have hal := arm_alike (D := D) fs cut
  have hl := looked_seen hi hoff n
  rw [hq] at hl
  cases hfd : find D.now n with
  | none => rw [hfd] at hl; cases hl
  | some i =>
    rw [hfd] at hl
    have hqd : q.data = (D.file i).seen := by have := Option.some.inj hl; rw [this]; rfl
    have eo : Disk.onFile n (FileS.add x) (D.arm fs cut).tick = (D.arm fs cut).tick.modify i (FileS.add x) := by unfold Disk.onFile; rw [tick_now, arm_now, hfd]
    have hlt : i < (D.arm fs cut).tick.files.length := by
      rw [hal.files]
      exact hi.now.lt (n, i) ((find_iff hi.now.names n i).1 hfd)
    rw [eo] at hE ⊢
    have hfile : ∀ j, ((D.arm fs cut).tick.modify i (FileS.add x)).file j = if i = j then (D.file j).add x else D.file j := fun j => by rw [file_modify _ _ _ hlt, hal.file]
    have hseen : ∀ f : FileS, (f.add x).seen = f.seen ++ x := fun f => by
      unfold FileS.add
      split
      · rename_i h; rw [h, List.append_nil]
      · rfl
    have hsafe : ∀ f : FileS, (f.add x).safe = f.safe ∧ (f.add x).badSafe = f.badSafe := fun f => by unfold FileS.add; split <;> exact ⟨rfl, rfl⟩
    refine ⟨numbers ((D.file i).add x).badSeen (sectors ((D.file i).add x).seen.length), ?_, ?_⟩
    · unfold Disk.read
      rw [if_neg (by show ¬ (D.arm fs cut).tick.off = true; rw [hal.off, hoff]; simp)]
      have : find ((D.arm fs cut).tick.modify i (FileS.add x)).now n = some i := by show find (D.arm fs cut).tick.now n = _; rw [hal.now]; exact hfd
      rw [this]
      simp only [hfile]
      rw [if_pos trivial, hqd, hseen]
    · rw [crash_lost hE, crash_lost hi, show ((D.arm fs cut).tick.modify i (FileS.add x)).sure = D.sure from hal.sure]
      refine List.map_congr_left fun p _ => ?_
      rw [hfile]
      split
      · rw [(hsafe _).1, (hsafe _).2]
      · rfl
end Go.Proofs.YtglhedahannjiaaGreatDoor.Dm

/- Walks: operation, looked, same. -/
namespace Go.Proofs.YtglhedahannjiaaGreatDoor.Dw
open Go.RowKit Go.ChangeMaps Go.Proofs.YtglhedahannjiaaGreatDoor.Mp Go.Proofs.YtglhedahannjiaaGreatDoor.Dm Go.Proofs.YtglhedahannjiaaGreatDoor.Da
open Go.Proofs.YtglhedahannjiaaGreatDoorW.PrintWords (Kd ReadsInt)
set_option linter.unusedVariables false
set_option linter.unusedSimpArgs false
set_option linter.unusedSectionVars false
theorem operation_calls (w : World) (k : Int) : Calls Tryz.prog 41 #[.int .i64 k] w fun e w' => e = .returned (.bool (decide (1 ≤ k) && decide (k ≤ 7))) ∧ w' = w := by
  by_cases h1 : 1 ≤ k
  · by_cases h2 : k ≤ 7
    · have e : (decide (1 ≤ k) && decide (k ≤ 7)) = true := by simp [h1, h2]
      rw [e]
      go_enter Tryz.func41, Tryz.ntmps41
      go_wp2
      all_goals
        go_ret
        exact ⟨rfl, rfl⟩
    · have e : (decide (1 ≤ k) && decide (k ≤ 7)) = false := by simp [h2]
      rw [e]
      go_enter Tryz.func41, Tryz.ntmps41
      go_wp2
      all_goals
        go_ret
        exact ⟨rfl, rfl⟩
  · have e : (decide (1 ≤ k) && decide (k ≤ 7)) = false := by simp [h1]
    rw [e]
    go_enter Tryz.func41, Tryz.ntmps41
    go_wp2
    all_goals
      go_ret
      exact ⟨rfl, rfl⟩
theorem looked_take {l : List Plain} {nm : Name} {j : Nat} {p : Plain} (h : looked (l.take j) nm = none) (hp : l[j]? = some p) : (p.name = nm → looked l nm = some p) ∧ (p.name ≠ nm → looked (l.take (j + 1)) nm = none) := by
  unfold looked at *
  have hl : l = l.take j ++ p :: l.drop (j + 1) := by
    have hj := (List.getElem?_eq_some_iff.1 hp).1
    have e : l[j] = p := (List.getElem?_eq_some_iff.1 hp).2
    rw [← e, ← List.drop_eq_getElem_cons hj, List.take_append_drop]
  constructor
  · intro hn
    rw [hl, List.find?_append, h]
    simp [hn]
  · intro hn
    rw [List.take_add_one, hp, List.find?_append, h]
    simp [hn]
def LookAns (w' : World) (e : Ending) : Option Plain → Prop
  | some q => ∃ A c A2 n2 c2, e = .returned (.tuple #[.slice A q.data.length c, .slice A2 n2 c2, .bool true]) ∧ BytesAt w' (.slice A q.data.length c) q.data
  | none => e = .returned (.tuple #[.slice none 0 0, .slice none 0 0, .bool false])
set_option maxHeartbeats 1000000 in
set_option maxRecDepth 100000 in
theorem looked_calls (w : World) (v : Value) (l : List Plain) (nm : Name) (h : ImgRd w v l) (hll : l.length ≤ 4611686018427387904) (r : Option Plain) (hr : looked l nm = r) :
    Calls Tryz.prog 43 #[v, .string nm] w fun e w' => LookAns w' e r ∧ Frm (fun _ => False) w w' := by
  obtain ⟨B1, d1, rfl, hd1, hC1⟩ := h
  have H1 := Lib.hid hC1
  have HR := Lib.hid hr
  clear hC1 hr
  go_enter Tryz.func43, Tryz.ntmps43
  go_wp2
  go_loopw [7] (fun v wr => ∃ j, v = .int .i64 (j : Nat) ∧ j ≤ l.length ∧ looked (l.take j) nm = none ∧ Frm (fun _ => False) w wr ∧ wr.heap[w.heap.size]? = some (.cells #[.slice B1 l.length d1] 36 (0, 0))) (fun v _ => l.length - (intOf v).toNat)
  case atStart => exact ⟨0, rfl, Nat.zero_le _, rfl, (Frm.refl _ _).alloc _, blk_alloc⟩
  case round =>
    obtain ⟨j, rfl, hj, hlk, hfr, hb1⟩ := hrel
    have x1 : wr.cell? ⟨w.heap.size, 0, none⟩ = some (.slice B1 l.length d1) := cell_of hb1 rfl
    have HB := Lib.hid (And.intro hlk (And.intro hfr hb1))
    clear hlk hfr hb1
    by_cases hlt : j < l.length
    · obtain ⟨p, hp⟩ : ∃ p, l[j]? = some p := ⟨_, List.getElem?_eq_getElem hlt⟩
      obtain ⟨a1, P1, s1, Q1, u1, rfl, k0, k1, k2, hby, hbd, hu1, hbl1⟩ := img_cells H1.out hp
      have k0' := frm_cell HB.out.2.1 k0
      have k1' := frm_cell HB.out.2.1 k1
      have k2' := frm_cell HB.out.2.1 k2
      have hj1 : j < d1 := by omega
      have hst := looked_take HB.out.1 hp
      have HST := Lib.hid (And.intro hst (And.intro hby hp))
      clear k0 k1 k2 hby hbd hp hst
      by_cases hn : p.name = nm
      · have hb : (ByteArray.toList p.name == ByteArray.toList nm) = true := by rw [hn]; simp
        have hrr := HR.out
        rw [HST.out.1.1 hn] at hrr
        subst hrr
        have HN := Lib.hid hn
        clear hn
        go_wp2
        go_quiet (fail)
        go_wp2
        go_ret3
        exact ⟨⟨_, _, _, _, _, rfl, HST.out.2.1.frm (HB.out.2.1.drewN _)⟩, HB.out.2.1.drewN _⟩
      · have hb : (ByteArray.toList p.name == ByteArray.toList nm) = false := str_beq _ _ _ ⟨fun h => by simp at h, fun h => absurd h hn⟩
        have HN := Lib.hid hn
        clear hn
        go_wp2
        exact ⟨⟨j + 1, by go_num, by omega, HST.out.1.2 HN.out, HB.out.2⟩, by simp [intOf]; omega⟩
    · obtain rfl : j = l.length := by omega
      have hrr := HR.out
      have h1 := HB.out.1
      rw [List.take_length, hrr] at h1
      subst h1
      go_wp2
      go_ret3
      exact ⟨rfl, HB.out.2.1⟩
set_option maxHeartbeats 1000000 in
set_option maxRecDepth 100000 in
/-- Two looks at a disk that tell the same. -/
theorem same_calls {B : Nat} {w0 w : World} {b : Nat} {lab : Nat → Option Lb} {eb : Nat → Addr} {n m : Nat} {D : Disk} (h : Next B w0 lab w b eb l7 n m D) (v1 v2 v3 : Value) (h1 : ImgRd w v1 D.seenImg) (h2 : ImgRd w v2 (D.crash [] 0)) (fs : List Int) (fn : Int) (Af : Option Addr) (cf : Nat)
    (h3 : ImgRd w v3 (D.crash fs fn)) (hfs : ∀ j (hj : j < fs.length), ∃ ad, Af = some ad ∧ w.cell? (ad.add j) = some (.int .i64 fs[j])) (hfl : fs.length ≤ 4611686018427387904) :
    Calls Tryz.prog 44 #[dptr b, v1, v2, v3, .agg #[.slice Af fs.length cf, .int .i64 fn]] w fun e w' => e = .returned (.bool true) ∧ Frm (fun _ => False) w w' := by
  obtain ⟨A1, c1, rfl, h1l, h1C⟩ := id h1
  obtain ⟨A2, c2, rfl, h2l, h2C⟩ := id h2
  obtain ⟨A3, c3, rfl, h3l, h3C⟩ := id h3
  have KS : Hid (∀ W, Frm (fun _ => False) w W → Calls Tryz.prog 29 #[dptr b] W fun e w' => ∃ A c, e = .returned (.agg #[.slice A D.seenImg.length c]) ∧ ImgRd w' (.agg #[.slice A D.seenImg.length c]) D.seenImg ∧ Frm (fun _ => False) W w') := fun W hW =>
    (h.on hW).seenC.mono (by rintro e w' ⟨A, c, e1, e2, e3⟩; exact ⟨A, c, e1, e2.rd, e3⟩)
  have KF : Hid (∀ W, Frm (fun _ => False) w W → Calls Tryz.prog 31 #[dptr b] W fun e w' => ∃ A c, e = .returned (.agg #[.slice A (D.crash [] 0).length c]) ∧ ImgRd w' (.agg #[.slice A (D.crash [] 0).length c]) (D.crash [] 0) ∧ Frm (fun _ => False) W w') := fun W hW =>
    (h.on hW).safeC.mono (by rintro e w' ⟨A, c, e1, e2, e3⟩; exact ⟨A, c, e1, e2.rd, e3⟩)
  have KC : Hid (∀ W, Frm (fun _ => False) w W → Calls Tryz.prog 17 #[dptr b, .agg #[.slice Af fs.length cf, .int .i64 fn]] W fun e w' => ∃ A c, e = .returned (.agg #[.slice A (D.crash fs fn).length c]) ∧ ImgRd w' (.agg #[.slice A (D.crash fs fn).length c]) (D.crash fs fn) ∧ Frm (fun _ => False) W w') := fun W hW =>
    ((h.on hW).crashC fs fn Af cf (fun j hj => by obtain ⟨ad, e, hc⟩ := hfs j hj; exact ⟨ad, e, frm_cell hW hc⟩) hfl).mono (by rintro e w' ⟨A, c, e1, e2, e3⟩; exact ⟨A, c, e1, e2.rd, e3⟩)
  have KI : Hid (∀ W v1 v2 l, ImgRd W v1 l → ImgRd W v2 l → ImgOk l → Calls Tryz.prog 28 #[v1, v2] W fun e w' => e = .returned (.bool true) ∧ Frm (fun _ => False) W w') := fun W v1 v2 l h1 h2 ok => images_same W v1 v2 l h1 h2 ok
  have HR := Lib.hid (And.intro h1 (And.intro h2 h3))
  have HOK := Lib.hid (And.intro h.seenOk (And.intro (h.crashOk [] 0) (h.crashOk fs fn)))
  clear h h1 h2 h3 h1C h2C h3C hfs
  generalize D.seenImg = s1 at *
  generalize D.crash [] 0 = s2 at *
  generalize D.crash fs fn = s3 at *
  unfold dptr at KS KF KC ⊢
  go_enter Tryz.func44, Tryz.ntmps44
  go_upto_region 1 with (fail)
  obtain ⟨w1, hw1⟩ : ∃ w1, w1 = (((w.alloc (.cells #[.slice A1 s1.length c1] 36)).alloc (.cells #[.slice A2 s2.length c2] 36)).alloc (.cells #[.slice A3 s3.length c3] 36)).alloc (.cells #[.slice Af fs.length cf, .int .i64 fn] 39) := ⟨_, rfl⟩
  rw [← hw1]
  have f1 : Frm (fun _ => False) w w1 := by rw [hw1]; exact ((((Frm.refl _ _).alloc _).alloc _).alloc _).alloc _
  have b0 : w1.heap[w.heap.size]? = some (.cells #[.slice A1 s1.length c1] 36 (0, 0)) := by rw [hw1]; exact (blk_alloc_lt (by simp only [World.size_alloc]; omega)).trans ((blk_alloc_lt (by simp only [World.size_alloc]; omega)).trans ((blk_alloc_lt (by simp only [World.size_alloc]; omega)).trans blk_alloc))
  have b1 : w1.heap[w.heap.size + 1]? = some (.cells #[.slice A2 s2.length c2] 36 (0, 0)) := by
    rw [hw1]
    refine (blk_alloc_lt (by simp only [World.size_alloc]; omega)).trans ((blk_alloc_lt (by simp only [World.size_alloc]; omega)).trans ?_)
    have := blk_alloc (w := w.alloc (.cells #[.slice A1 s1.length c1] 36)) (o := .cells #[.slice A2 s2.length c2] 36)
    simpa only [World.size_alloc] using this
  have b2 : w1.heap[w.heap.size + 1 + 1]? = some (.cells #[.slice A3 s3.length c3] 36 (0, 0)) := by
    rw [hw1]
    refine (blk_alloc_lt (by simp only [World.size_alloc]; omega)).trans ?_
    have := blk_alloc (w := (w.alloc (.cells #[.slice A1 s1.length c1] 36)).alloc (.cells #[.slice A2 s2.length c2] 36)) (o := .cells #[.slice A3 s3.length c3] 36)
    simpa only [World.size_alloc] using this
  have b3 : w1.heap[w.heap.size + 1 + 1 + 1]? = some (.cells #[.slice Af fs.length cf, .int .i64 fn] 39 (0, 0)) := by
    rw [hw1]
    have := blk_alloc (w := ((w.alloc (.cells #[.slice A1 s1.length c1] 36)).alloc (.cells #[.slice A2 s2.length c2] 36)).alloc (.cells #[.slice A3 s3.length c3] 36)) (o := .cells #[.slice Af fs.length cf, .int .i64 fn] 39)
    simpa only [World.size_alloc] using this
  have zz : Hid (∀ W, Frm (fun _ => False) w1 W → (W.cell? ⟨w.heap.size, 0, none⟩ = some (.slice A1 s1.length c1) ∧ W.cell? ⟨w.heap.size + 1, 0, none⟩ = some (.slice A2 s2.length c2) ∧ W.cell? ⟨w.heap.size + 1 + 1, 0, none⟩ = some (.slice A3 s3.length c3) ∧ W.cell? ⟨w.heap.size + 1 + 1 + 1, 0, none⟩ = some (.slice Af fs.length cf) ∧ W.cell? ⟨w.heap.size + 1 + 1 + 1, 1, none⟩ = some (.int .i64 fn))) := fun W hW =>
    ⟨cell_of ((hW.block _ (Da.blk_lt b0) id).trans b0) rfl, cell_of ((hW.block _ (Da.blk_lt b1) id).trans b1) rfl, cell_of ((hW.block _ (Da.blk_lt b2) id).trans b2) rfl, cell_of ((hW.block _ (Da.blk_lt b3) id).trans b3) rfl, cell_of ((hW.block _ (Da.blk_lt b3) id).trans b3) rfl⟩
  have S0 := zz.out w1 (Frm.refl _ _)
  have D0 := zz.out w1.drew (Frm.refl _ _).drew
  have HF1 := Lib.hid f1
  clear f1 b0 b1 b2 b3 hw1
  go_region_held3 (fun W => W.cell? ⟨w.heap.size, 0, none⟩ = some (.slice A1 s1.length c1) ∧ W.cell? ⟨w.heap.size + 1, 0, none⟩ = some (.slice A2 s2.length c2) ∧ W.cell? ⟨w.heap.size + 1 + 1, 0, none⟩ = some (.slice A3 s3.length c3) ∧ W.cell? ⟨w.heap.size + 1 + 1 + 1, 0, none⟩ = some (.slice Af fs.length cf) ∧ W.cell? ⟨w.heap.size + 1 + 1 + 1, 1, none⟩ = some (.int .i64 fn))
    (first | exact S0 | exact D0 | exact zz.out _ HX1.out.1 | exact zz.out _ HX2.out | exact zz.out _ HX3.out.1 | exact zz.out _ HX4.out | exact zz.out _ HX5.out.1 | exact zz.out _ HX6.out | go_keep)
    (first
      | (go_at_call 29; (with_reducible refine (KS.out _ (by first | exact HF1.out | exact HF1.out.drew)).mono ?_); rintro e u1 ⟨A1, c1, rfl, hr1, f1⟩; have HX1 : Hid (Frm (fun _ => False) w1 u1 ∧ _) := Lib.hid (And.intro (by first | exact f1 | exact (Frm.refl _ _).drew.trans f1 (fun _ _ h => h)) hr1); clear hr1 f1)
      | (go_at_call 28; (with_reducible refine (KI.out _ _ _ s1 HX1.out.2 (HR.out.1.frm (HF1.out.trans HX1.out.1 (fun _ _ h => h))) HOK.out.1).mono ?_); rintro e u2 ⟨rfl, f2⟩; have HX2 : Hid (Frm (fun _ => False) w1 u2) := Lib.hid (HX1.out.1.trans f2 (fun _ _ h => h)); clear f2)
      | (go_at_call 31; (with_reducible refine (KF.out _ (HF1.out.trans HX2.out (fun _ _ h => h))).mono ?_); rintro e u3 ⟨A3, c3, rfl, hr3, f3⟩; have HX3 := Lib.hid (And.intro (HX2.out.trans f3 (fun _ _ h => h)) hr3); clear hr3 f3)
      | (go_at_call 28; (with_reducible refine (KI.out _ _ _ s2 HX3.out.2 (HR.out.2.1.frm (HF1.out.trans HX3.out.1 (fun _ _ h => h))) HOK.out.2.1).mono ?_); rintro e u4 ⟨rfl, f4⟩; have HX4 : Hid (Frm (fun _ => False) w1 u4) := Lib.hid (HX3.out.1.trans f4 (fun _ _ h => h)); clear f4)
      | (go_at_call 17; (with_reducible refine (KC.out _ (HF1.out.trans HX4.out (fun _ _ h => h))).mono ?_); rintro e u5 ⟨A5, c5, rfl, hr5, f5⟩; have HX5 := Lib.hid (And.intro (HX4.out.trans f5 (fun _ _ h => h)) hr5); clear hr5 f5)
      | (go_at_call 28; (with_reducible refine (KI.out _ _ _ s3 HX5.out.2 (HR.out.2.2.frm (HF1.out.trans HX5.out.1 (fun _ _ h => h))) HOK.out.2.2).mono ?_); rintro e u6 ⟨rfl, f6⟩; have HX6 : Hid (Frm (fun _ => False) w1 u6) := Lib.hid (HX5.out.1.trans f6 (fun _ _ h => h)); clear f6))
  all_goals
    go_wp2
    go_ret
    exact ⟨rfl, HF1.out.trans HX6.out (fun _ _ h => h)⟩
end Go.Proofs.YtglhedahannjiaaGreatDoor.Dw
