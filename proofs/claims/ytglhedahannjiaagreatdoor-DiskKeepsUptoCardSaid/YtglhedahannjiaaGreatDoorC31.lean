/- A part of the proof of diskDown_holds: Dp8, Fp, Dp9, Fq, Fr, Dp10. No condition. -/
import Derived.Test.YtglhedahannjiaaGreatDoorC30

/- The pure disk: all files and the names synced. -/
namespace Go.Proofs.YtglhedahannjiaaGreatDoor.Dm
set_option linter.unusedVariables false
/-- Nothing is told to fail. -/
structure Quiet (D : Disk) : Prop where
  off : D.off = false
  fails : D.fails = []
  cut : D.cut = 0
theorem Quiet.run {D : Disk} (h : Quiet D) (refused : Err) (act : Disk → Disk) (waits : Bool) (part : Option (Int → Disk → Disk)) : D.run refused act waits part = if refused = 0 then (0, act D.tick) else (refused, D.tick) := by
  unfold Disk.run
  rw [if_neg (by rw [h.off]; simp)]
  have : D.tick.armed = .goes := by
    unfold Disk.armed Disk.tick
    simp only [h.cut, h.fails, List.find?_nil]
    rw [if_neg (by omega)]
  rw [this]
theorem fresh_quiet (D : Disk) : Quiet D.fresh := by
  refine ⟨fresh_off D, ?_, ?_⟩
  all_goals
    unfold Disk.fresh
    by_cases h : D.off = true
    · rw [if_pos h]; rfl
    · rw [if_neg h]; unfold Disk.arm; rw [if_neg h]
structure Synced (D E : Disk) (l : List (Name × Nat)) : Prop where
  quiet : Quiet E
  now : E.now = D.now
  sure : E.sure = D.sure
  changes : E.changes = D.changes
  len : E.files.length = D.files.length
  count : E.count = D.count + l.length
  file : ∀ i, E.file i = if i ∈ l.map (·.2) then (D.file i).sync else D.file i
theorem Synced.none {D : Disk} (h : Quiet D) : Synced D D [] := ⟨h, rfl, rfl, rfl, rfl, rfl, fun i => by simp⟩
theorem file_modify (D : Disk) (i j : Nat) (hi : i < D.files.length) (g : FileS → FileS) : (D.modify i g).file j = if i = j then g (D.file j) else D.file j := by
  unfold Disk.file Disk.modify
  simp only [List.getElem?_modify]
  by_cases h : i = j
  · subst h
    rw [if_pos rfl, List.getElem?_eq_getElem hi]; simp
  · rw [if_neg h]
    cases D.files[j]? <;> simp [h]
theorem Synced.next {D E : Disk} {l : List (Name × Nat)} (h : Synced D E l) (p : Name × Nat) (hp : find D.now p.1 = some p.2) (hlt : p.2 < D.files.length) : (E.sync p.1).1 = 0 ∧ Synced D (E.sync p.1).2 (l ++ [p]) := by
  have hf : find E.now p.1 = some p.2 := by rw [h.now]; exact hp
  have hg : E.gone p.1 = 0 := by unfold Disk.gone; rw [hf]; rfl
  have e : E.sync p.1 = (0, E.tick.modify p.2 FileS.sync) := by
    unfold Disk.sync
    rw [h.quiet.run, if_pos hg]
    unfold Disk.onFile
    rw [tick_now, hf]
  rw [e]
  refine ⟨rfl, ⟨⟨h.quiet.off, h.quiet.fails, h.quiet.cut⟩, h.now, h.sure, h.changes, by show (E.files.modify _ _).length = _; rw [List.length_modify]; exact h.len, by show E.count + 1 = _; rw [h.count, List.length_append]; rfl, fun i => ?_⟩⟩
  show (E.tick.modify p.2 FileS.sync).file i = _
  rw [file_modify _ _ _ (by show p.2 < E.files.length; rw [h.len]; exact hlt)]
  show (if p.2 = i then (E.file i).sync else E.file i) = _
  rw [h.file i]
  simp only [List.map_append, List.map_cons, List.map_nil, List.mem_append, List.mem_singleton]
  by_cases h1 : p.2 = i
  · have hin : i ∈ l.map (·.2) ∨ i = p.2 := Or.inr h1.symm
    rw [if_pos h1, if_pos hin]
    by_cases h2 : i ∈ l.map (·.2)
    · rw [if_pos h2]; rfl
    · rw [if_neg h2]
  · rw [if_neg h1]
    by_cases h2 : i ∈ l.map (·.2)
    · have hin : i ∈ l.map (·.2) ∨ i = p.2 := Or.inl h2
      rw [if_pos h2, if_pos hin]
    · have hin : ¬ (i ∈ l.map (·.2) ∨ i = p.2) := fun h3 => h3.elim h2 fun h3 => h1 h3.symm
      rw [if_neg h2, if_neg hin]
end Go.Proofs.YtglhedahannjiaaGreatDoor.Dm

/- A disk that turns, and what is held beside it. -/
namespace Go.Proofs.YtglhedahannjiaaGreatDoor.Dw
open Go.RowKit Go.ChangeMaps Go.Proofs.YtglhedahannjiaaGreatDoor.Mp Go.Proofs.YtglhedahannjiaaGreatDoor.Dm Go.Proofs.YtglhedahannjiaaGreatDoor.Da
open Go.Proofs.YtglhedahannjiaaGreatDoorW.PrintWords (Kd ReadsInt)
set_option linter.unusedVariables false
set_option linter.unusedSimpArgs false
set_option linter.unusedSectionVars false
theorem ImgAt.keep {w W : World} {base : Nat} {v : Value} {l : List Plain} {F : Nat → Prop} (h : ImgAt w base v l) (hf : Frm F w W) (hF : ∀ k, F k → k < base) : ImgAt W base v l := by
  obtain ⟨A, c, e, h⟩ := h
  refine ⟨A, c, e, ?_⟩
  have h1 := Kd.R_bound h
  exact Kd.R_mono (Kd.R_step h1 (fun k hk hlt => hf.block k hlt (fun hF' => by have := hF k hF'; have := hk.2.1; omega))) (fun _ hk => hk.1)
section
variable {B : Nat} {w0 w : World} {b : Nat} {lab : Nat → Option Lb} {eb : Nat → Addr} {n m : Nat} {D : Disk}
theorem Live.lab_lt (h : Live B w b lab eb l7 n m D) : ∀ k, Ft lab k → k < w.heap.size := by
  obtain ⟨A, h1⟩ := h.dsk
  intro k hk
  obtain ⟨p, hp⟩ := Option.isSome_iff_exists.1 hk
  exact (h1.base k p hp).2
theorem Live.self (h : Live B w b lab eb l7 n m D) : Next B w lab w b eb l7 n m D := h.stay (Frm.refl _ _)
theorem Next.then_ (h : Next B w0 lab w b eb l7 n m D) : ∃ lab1, Live B w b lab1 eb l7 n m D ∧ ∀ {w2 n' m' D'}, Next B w lab1 w2 b eb l7 n' m' D' → Next B w0 lab w2 b eb l7 n' m' D' := by
  obtain ⟨lab1, h1, h2, h3⟩ := h
  refine ⟨lab1, h1, fun {w2 n' m' D'} h => ?_⟩
  obtain ⟨lab2, k1, k2, k3⟩ := h
  exact ⟨lab2, k1, h2.trans k2 (fun k hk hl => h3 k hk hl), fun k hk hl => h3 k hk (k3 k (Nat.lt_of_lt_of_le hk h2.size) hl)⟩
theorem Next.frmF (h : Next B w0 lab w b eb l7 n m D) : Frm (Ft lab) w0 w := h.choose_spec.2.1
theorem Next.on (h : Next B w0 lab w b eb l7 n m D) {w2 : World} (hf : Frm (fun _ => False) w w2) : Next B w0 lab w2 b eb l7 n m D := by
  obtain ⟨lab1, h1, h2⟩ := h.then_
  exact h2 (h1.stay hf)
theorem Next.inv (h : Next B w0 lab w b eb l7 n m D) : Inv D := h.choose_spec.1.inv
theorem Next.sz (h : Next B w0 lab w b eb l7 n m D) : Sz n m D := h.choose_spec.1.sz
theorem Next.seenOk (h : Next B w0 lab w b eb l7 n m D) : ImgOk D.seenImg := imgOk_of (seen_img h.inv) (seen_len h.inv h.sz.len).2 (by have := h.choose_spec.1.hm; omega)
theorem Next.crashOk (h : Next B w0 lab w b eb l7 n m D) (fs : List Int) (k : Int) : ImgOk (D.crash fs k) := imgOk_of (crash_img h.inv fs k) (crash_len h.inv fs k h.sz.len).2 (by have := h.choose_spec.1.hm; omega)
theorem Next.seenC (h : Next B w0 lab w b eb l7 n m D) :
    Calls Tryz.prog 29 #[dptr b] w fun e w' => ∃ A c, e = .returned (.agg #[.slice A D.seenImg.length c]) ∧ ImgAt w' w.heap.size (.agg #[.slice A D.seenImg.length c]) D.seenImg ∧ Frm (fun _ => False) w w' := by
  obtain ⟨lab1, h1, h2⟩ := h.then_
  refine h1.seen.mono ?_
  rintro e w' ⟨v, rfl, hv, hf⟩
  obtain ⟨A, c, rfl, _⟩ := id hv
  exact ⟨A, c, rfl, hv, hf⟩
theorem Next.safeC (h : Next B w0 lab w b eb l7 n m D) :
    Calls Tryz.prog 31 #[dptr b] w fun e w' => ∃ A c, e = .returned (.agg #[.slice A (D.crash [] 0).length c]) ∧ ImgAt w' w.heap.size (.agg #[.slice A (D.crash [] 0).length c]) (D.crash [] 0) ∧ Frm (fun _ => False) w w' := by
  obtain ⟨lab1, h1, h2⟩ := h.then_
  refine h1.safe.mono ?_
  rintro e w' ⟨v, rfl, hv, hf⟩
  obtain ⟨A, c, rfl, _⟩ := id hv
  exact ⟨A, c, rfl, hv, hf⟩
theorem Next.crashC (h : Next B w0 lab w b eb l7 n m D) (fs : List Int) (k : Int) (p : Option Addr) (c : Nat) (hfs : ∀ j (hj : j < fs.length), ∃ ad, p = some ad ∧ w.cell? (ad.add j) = some (.int .i64 fs[j])) (hfl : fs.length ≤ 4611686018427387904) :
    Calls Tryz.prog 17 #[dptr b, .agg #[.slice p fs.length c, .int .i64 k]] w fun e w' => ∃ A c, e = .returned (.agg #[.slice A (D.crash fs k).length c]) ∧ ImgAt w' w.heap.size (.agg #[.slice A (D.crash fs k).length c]) (D.crash fs k) ∧ Frm (fun _ => False) w w' := by
  obtain ⟨lab1, h1, h2⟩ := h.then_
  refine (h1.crash fs k p c hfs hfl).mono ?_
  rintro e w' ⟨v, rfl, hv, hf⟩
  obtain ⟨A, c, rfl, _⟩ := id hv
  exact ⟨A, c, rfl, hv, hf⟩
theorem Next.opsC (h : Next B w0 lab w b eb l7 n m D) : Calls Tryz.prog 33 #[dptr b] w fun e w' => e = .returned (.int .i64 D.count) ∧ w' = w := by
  obtain ⟨lab1, h1, h2⟩ := h.then_
  exact h1.ops
theorem Next.downC (h : Next B w0 lab w b eb l7 n m D) : Calls Tryz.prog 35 #[dptr b] w fun e w' => e = .returned (.bool D.off) ∧ w' = w := by
  obtain ⟨lab1, h1, h2⟩ := h.then_
  exact h1.down
theorem Next.armC (h : Next B w0 lab w b eb l7 n m D) (v : Value) (fs : List (Int × Int)) (cut : Int) (hv : FailsAt w v fs) (hn : fs.length ≤ 8796093022208) :
    Calls Tryz.prog 42 #[dptr b, v, .int .i64 cut] w fun e w' => e = .returned (.tuple #[]) ∧ Next B w0 lab w' b eb l7 n m (D.arm fs cut) := by
  obtain ⟨lab1, h1, h2⟩ := h.then_
  exact (h1.arm v fs cut hv hn).mono (by rintro e w' ⟨e1, e2⟩; exact ⟨e1, h2 e2⟩)
end
end Go.Proofs.YtglhedahannjiaaGreatDoor.Dw

/- The pure disk: an operation that is told to fail. -/
namespace Go.Proofs.YtglhedahannjiaaGreatDoor.Dm
set_option linter.unusedVariables false
theorem sidesBy_congr {D E : Disk} (h : ∀ i, E.file i = D.file i) (fs : List Int) : ∀ (l : List (Name × Nat)) (c : Nat), sidesBy E fs l c = sidesBy D fs l c
  | [], _ => rfl
  | p :: l, c => by unfold sidesBy; rw [h, sidesBy_congr h fs l]
/-- What a look tells of a disk hangs on four of its parts. -/
structure Alike (D E : Disk) : Prop where
  files : E.files = D.files
  now : E.now = D.now
  sure : E.sure = D.sure
  changes : E.changes = D.changes
  off : E.off = D.off
theorem Alike.refl (D : Disk) : Alike D D := ⟨rfl, rfl, rfl, rfl, rfl⟩
theorem Alike.file {D E : Disk} (h : Alike D E) (i : Nat) : E.file i = D.file i := by unfold Disk.file; rw [h.files]
theorem Alike.crash {D E : Disk} (h : Alike D E) (fs : List Int) (k : Int) : E.crash fs k = D.crash fs k := by
  have hl : ∀ j, E.left j = D.left j := fun j => by unfold Disk.left; rw [h.sure, h.changes]
  unfold Disk.crash
  rw [hl]
  exact List.map_congr_left fun p _ => by rw [sidesBy_congr h.file]
theorem Alike.seen {D E : Disk} (h : Alike D E) : E.seenImg = D.seenImg := by
  unfold Disk.seenImg
  rw [h.off, h.now]
  split
  · rfl
  · exact List.map_congr_left fun p _ => by rw [h.file]
/-- All that waits is lost. -/
theorem crash_lost {D : Disk} (h : Inv D) : D.crash [] 0 = (inOrder D.sure).map fun p => plain p.1 ⟨(D.file p.2).safe, (D.file p.2).badSafe⟩ := by
  obtain ⟨c, _, e⟩ := crash_eq h [] 0
  have el : D.left (0 : Int).toNat = D.sure := by simp [Disk.left]
  rw [e, el]
  refine List.map_congr_left fun p _ => ?_
  rw [fated_lost _ (h.fileOk p.2).sub (fun x hx => by simp [fatesFrom] at hx; exact hx.2.symm)]
theorem run_fails {D : Disk} (hoff : D.off = false) (p : Int) (ref : Err) (act : Disk → Disk) (wt : Bool) (part : Option (Int → Disk → Disk)) : (D.arm [(1, p)] 0).run ref act wt part = (eIo, failTo ref p part (D.arm [(1, p)] 0).tick) := by
  have e : D.arm [(1, p)] 0 = { D with fails := [(1, p)], cut := 0, since := 0 } := by unfold Disk.arm; rw [if_neg (by rw [hoff]; simp)]
  rw [e]
  unfold Disk.run
  rw [if_neg (by rw [hoff]; simp)]
  have ha : ({ D with fails := [(1, p)], cut := 0, since := 0 } : Disk).tick.armed = .fails p := rfl
  rw [ha]
theorem arm_alike {D : Disk} (fs : List (Int × Int)) (cut : Int) : Alike D (D.arm fs cut).tick := by
  unfold Disk.arm
  split
  · exact ⟨rfl, rfl, rfl, rfl, rfl⟩
  · exact ⟨rfl, rfl, rfl, rfl, rfl⟩
theorem arm_count {D : Disk} (fs : List (Int × Int)) (cut : Int) : (D.arm fs cut).count = D.count := by unfold Disk.arm; split <;> rfl
end Go.Proofs.YtglhedahannjiaaGreatDoor.Dm

/- Walks: operation, looked, same. -/
namespace Go.Proofs.YtglhedahannjiaaGreatDoor.Dw
open Go.RowKit Go.ChangeMaps Go.Proofs.YtglhedahannjiaaGreatDoor.Mp Go.Proofs.YtglhedahannjiaaGreatDoor.Dm Go.Proofs.YtglhedahannjiaaGreatDoor.Da
open Go.Proofs.YtglhedahannjiaaGreatDoorW.PrintWords (Kd ReadsInt)
set_option linter.unusedVariables false
set_option linter.unusedSimpArgs false
set_option linter.unusedSectionVars false
theorem operation_calls (w : World) (k : Int) : Calls Tryz.prog 41 #[.int .i64 k] w fun e w' => e = .returned (.bool (decide (1 ≤ k) && decide (k ≤ 7))) ∧ w' = w := by
  by_cases h1 : 1 ≤ k
  · by_cases h2 : k ≤ 7
    · have e : (decide (1 ≤ k) && decide (k ≤ 7)) = true := by simp [h1, h2]
      rw [e]
      go_enter Tryz.func41, Tryz.ntmps41
      go_wp2
      all_goals
        go_ret
        exact ⟨rfl, rfl⟩
    · have e : (decide (1 ≤ k) && decide (k ≤ 7)) = false := by simp [h2]
      rw [e]
      go_enter Tryz.func41, Tryz.ntmps41
      go_wp2
      all_goals
        go_ret
        exact ⟨rfl, rfl⟩
  · have e : (decide (1 ≤ k) && decide (k ≤ 7)) = false := by simp [h1]
    rw [e]
    go_enter Tryz.func41, Tryz.ntmps41
    go_wp2
    all_goals
      go_ret
      exact ⟨rfl, rfl⟩
end Go.Proofs.YtglhedahannjiaaGreatDoor.Dw

/- Walks: a disk whose power is off. -/
namespace Go.Proofs.YtglhedahannjiaaGreatDoor.Dm
set_option linter.unusedVariables false
theorem run_dark {D : Disk} (h : D.off = true) (ref : Err) (act : Disk → Disk) (wt : Bool) (part : Option (Int → Disk → Disk)) : D.run ref act wt part = (eDown, D) := by unfold Disk.run; rw [if_pos h]
/-- A dark disk stays as it is; its operations answer so. -/
theorem ask_dark {D : Disk} (h : D.off = true) (o : OpS) : (D.ask o).2 = D ∧ (1 ≤ o.kind → o.kind ≤ 9 → (D.ask o).1.e = 7) := by
  have h1 : ∀ n, D.create n = (eDown, D) := fun n => run_dark h _ _ _ _
  have h2 : ∀ n x, D.append n x = (eDown, D) := fun n x => run_dark h _ _ _ _
  have h3 : ∀ n, D.sync n = (eDown, D) := fun n => run_dark h _ _ _ _
  have h4 : ∀ n k, D.truncate n k = (eDown, D) := fun n k => run_dark h _ _ _ _
  have h5 : ∀ n k, D.rename n k = (eDown, D) := fun n k => run_dark h _ _ _ _
  have h6 : ∀ n, D.remove n = (eDown, D) := fun n => run_dark h _ _ _ _
  have h7 : D.syncNames = (eDown, D) := run_dark h _ _ _ _
  have h8 : ∀ n, (D.read n).1 = 7 := fun n => by unfold Disk.read; rw [if_pos h]
  have h9 : D.names.1 = 7 := by unfold Disk.names; rw [if_pos h]
  have ha : ∀ fs c, D.arm fs c = D := fun fs c => by unfold Disk.arm; rw [if_pos h]
  unfold Disk.ask
  by_cases c1 : o.kind = 1
  · rw [if_pos c1, h1]; exact ⟨rfl, fun _ _ => rfl⟩
  rw [if_neg c1]
  by_cases c2 : o.kind = 2
  · rw [if_pos c2, h2]; exact ⟨rfl, fun _ _ => rfl⟩
  rw [if_neg c2]
  by_cases c3 : o.kind = 3
  · rw [if_pos c3, h3]; exact ⟨rfl, fun _ _ => rfl⟩
  rw [if_neg c3]
  by_cases c4 : o.kind = 4
  · rw [if_pos c4, h4]; exact ⟨rfl, fun _ _ => rfl⟩
  rw [if_neg c4]
  by_cases c5 : o.kind = 5
  · rw [if_pos c5, h5]; exact ⟨rfl, fun _ _ => rfl⟩
  rw [if_neg c5]
  by_cases c6 : o.kind = 6
  · rw [if_pos c6, h6]; exact ⟨rfl, fun _ _ => rfl⟩
  rw [if_neg c6]
  by_cases c7 : o.kind = 7
  · rw [if_pos c7, h7]; exact ⟨rfl, fun _ _ => rfl⟩
  rw [if_neg c7]
  by_cases c8 : o.kind = 8
  · rw [if_pos c8]; exact ⟨rfl, fun _ _ => h8 _⟩
  rw [if_neg c8]
  by_cases c9 : o.kind = 9
  · rw [if_pos c9]; exact ⟨rfl, fun _ _ => h9⟩
  rw [if_neg c9]
  by_cases c10 : o.kind = 10
  · rw [if_pos c10]; exact ⟨rfl, fun _ h => by omega⟩
  rw [if_neg c10]
  by_cases c11 : o.kind = 11
  · rw [if_pos c11]; exact ⟨rfl, fun _ h => by omega⟩
  rw [if_neg c11]
  by_cases c12 : o.kind = 12
  · rw [if_pos c12]; exact ⟨rfl, fun _ h => by omega⟩
  rw [if_neg c12]
  by_cases c13 : o.kind = 13
  · rw [if_pos c13]; exact ⟨rfl, fun _ h => by omega⟩
  rw [if_neg c13]
  by_cases c14 : o.kind = 14
  · rw [if_pos c14]; exact ⟨ha _ _, fun _ h => by omega⟩
  rw [if_neg c14]
  by_cases c15 : o.kind = 15
  · rw [if_pos c15]; exact ⟨rfl, fun _ h => by omega⟩
  rw [if_neg c15]
  exact ⟨rfl, fun h1 h2 => by omega⟩
end Go.Proofs.YtglhedahannjiaaGreatDoor.Dm
namespace Go.Proofs.YtglhedahannjiaaGreatDoor.Dw
open Go.RowKit Go.ChangeMaps Go.Proofs.YtglhedahannjiaaGreatDoor.Mp Go.Proofs.YtglhedahannjiaaGreatDoor.Dm Go.Proofs.YtglhedahannjiaaGreatDoor.Da
open Go.Proofs.YtglhedahannjiaaGreatDoorW.PrintWords (Kd ReadsInt)
set_option linter.unusedVariables false
set_option linter.unusedSimpArgs false
set_option linter.unusedSectionVars false
theorem Next.shrink {B : Nat} {w w' : World} {b : Nat} {lab : Nat → Option Lb} {eb : Nat → Addr} {L : List Err} {n m n' m' : Nat} {D : Disk} (h : Next B w lab w' b eb L n' m' D) (hs : Sz n m D) (hf : DFit n m) : Next B w lab w' b eb L n m D := by
  obtain ⟨lab', h1, h2, h3⟩ := h
  exact ⟨lab', ⟨h1.dsk, h1.ers, h1.inv, hs, hf⟩, h2, h3⟩
theorem Next.askC {B : Nat} {w0 w wa : World} {b : Nat} {lab : Nat → Option Lb} {eb : Nat → Addr} {n m m2 : Nat} {D : Disk} (h : Next B w0 lab w b eb l7 n m D) (h15 : Errs15 B w eb) (hBw : B ≤ w.heap.size) (hw : Frm (fun k => B ≤ k) wa w) (hB : wa.heap.size ≤ B) (o : OpS) (v : Value) (ho : OpIn wa o v) (ok : OpOk o) (hmm : m ≤ m2) (hmd : o.kind = 2 → m + o.data.length ≤ m2) (hf : DFit (n + 1) m2) :
    Calls Tryz.prog 25 #[dptr b, v] w fun e w' => ∃ av, e = .returned av ∧ AnsAt w' w.heap.size av (D.ask o).1 ∧ Next B w0 lab w' b eb l7 (n + 1) m2 (D.ask o).2 := by
  obtain ⟨lab1, h1, h2⟩ := h.then_
  refine (asked_calls h1 h15 hBw hw hB o v ho ok hmm hmd hf).mono ?_
  rintro e w' ⟨av, e1, e2, e3⟩
  exact ⟨av, e1, e2, h2 e3⟩
set_option maxRecDepth 100000 in
theorem append_off {B : Nat} {w : World} {b : Nat} {lab : Nat → Option Lb} {eb : Nat → Addr} {n m : Nat} {D : Disk} (h : Live B w b lab eb l7 n m D) (hoff : D.off = true) (nm : Name) (pv : Option Addr) (cc : Nat) (data : List Int) :
    Calls Tryz.prog 13 #[dptr b, .string nm, .slice pv data.length cc] w fun e w' => e = .returned (errV eb (D.append nm data).1) ∧ Next B w lab w' b eb l7 n m (D.append nm data).2 := by
  have hr : D.append nm data = (eDown, D) := run_dark hoff _ _ _ _
  rw [hr]
  have KR : Hid (∀ W f, Frm (fun _ => False) w W → Calls Tryz.prog 47 #[dptr b, f] W fun e w' => e = .returned (errV eb eDown) ∧ w' = W) := fun W f hW => by
    have h1 := h.frm hW
    obtain ⟨A, hd⟩ := h1.dsk
    exact run_off hd h1.ers hoff f
  have H := Lib.hid h
  clear h hr
  obtain ⟨ev, hev⟩ : ∃ ev, ev = errV eb eDown := ⟨_, rfl⟩
  rw [← hev] at KR ⊢
  clear hev
  unfold dptr at KR ⊢
  go_enter Tryz.func13, Tryz.ntmps13
  go_wp2_with (first | (go_at_call 47; refine (KR.out _ _ ((((Frm.refl _ _).alloc _).alloc _).alloc _)).mono ?_; rintro e w' ⟨rfl, rfl⟩))
  go_ret
  exact ⟨rfl, H.out.stay ((((Frm.refl _ _).alloc _).alloc _).alloc _)⟩
set_option maxHeartbeats 4000000 in
set_option maxRecDepth 100000 in
theorem asked_2_off {w0 w : World} {B b n m : Nat} {lab : Nat → Option Lb} {eb : Nat → Addr} {D : Disk} (h : Live B w b lab eb l7 n m D) (h15 : Errs15 B w eb) (hBw : B ≤ w.heap.size) (hw : Frm (fun k => B ≤ k) w0 w) (hB : w0.heap.size ≤ B) (o : OpS) (v : Value) (ho : OpIn w0 o v) (ok : OpOk o) (hoff : D.off = true) (hk : o.kind = 2) : Calls Tryz.prog 25 #[dptr b, v] w fun e w' => ∃ av, e = .returned av ∧ AnsAt w' w.heap.size av (D.ask o).1 ∧ Next B w lab w' b eb l7 n m (D.ask o).2 := by
  obtain ⟨A1, c1, A2, c2, A3, c3, rfl, hc1, hr1, hf2, hf3⟩ := ho
  have hask : D.ask o = ({ e := (D.append o.name o.data).1 }, (D.append o.name o.data).2) := by unfold Disk.ask; simp [hk]
  rw [hask, hk]
  obtain ⟨ov, hov⟩ : ∃ ov : Array Value, ov = #[.int .i64 2, .string o.name, .string o.to_, .slice A1 o.data.length c1, .int .i64 o.n, .slice A2 o.fails.length c2, .int .i64 o.cut, .slice A3 o.fs.length c3, .int .i64 o.fn] := ⟨_, rfl⟩
  have h0 : Live B (askW w ov) b lab eb l7 n m D := h.frm (askW_frm w ov)
  have h150 : Errs15 B (askW w ov) eb := h15.frm (askW_frm w ov) (fun _ h => h.elim)
  have kop := append_off h0 hoff o.name A1 c1 o.data
  obtain ⟨cc, hcc⟩ : ∃ cc, cc = (D.append o.name o.data).1 := ⟨_, rfl⟩
  have hle : cc ≤ 15 := by rw [hcc]; exact append_le D o.name o.data
  rw [← hcc] at kop ⊢
  clear hcc hask
  generalize (D.append o.name o.data).2 = D' at *
  subst hov
  have KOP := Lib.hid kop
  have H15 := Lib.hid h150
  have HL := Lib.hid h
  clear kop h150 h0 h15 hf2 hf3 hr1
  unfold dptr at KOP ⊢
  clear hk
  go_enter Tryz.func25, Tryz.ntmps25
  go_wp2_with (first
    | (go_at_call 13; refine KOP.out.mono ?_; rintro e w' ⟨rfl, hx⟩; have KO := Lib.hid (of_calls (H15.out.frm hx.choose_spec.2.1 (fun k hk => HL.out.base k hk)) cc hle); obtain ⟨b5, b4⟩ := ask_blocks HL.out hx; obtain ⟨x0, x1, x2, x3, x4, x5, x6, x7, q5⟩ := ans_cells b5; obtain ⟨y0, y1, y2, y3, y4, y5, y6, y7, q4⟩ := ans_cells b4; have HX := Lib.hid (And.intro hx (And.intro b5 b4)); clear hx b5 b4)
    | (go_at_call 77; refine KO.out.mono ?_; rintro e w' ⟨rfl, rfl⟩))
  obtain ⟨hx, b5, b4⟩ := HX.out
  have b4r : (w'.setCell ⟨w.heap.size + 1 + 1, 0, none⟩ (.int .i64 (cc : Nat))).heap[w.heap.size + 1]? = some (.cells (ansCells 0 0 0 false (.slice none 0 0) (.slice none 0 0) (.slice none 0 0) (.slice none 0 0)) 59 (0, 0)) := by
    rw [blk_set_ne (by omega)]
    exact b4
  have k8 := ans_set b4r rfl (.int .i64 (cc : Nat)) (.slice none 0 0) (.slice none 0 0) (.slice none 0 0) (.slice none 0 0) (.int .i64 0) (.int .i64 0) (.bool false)
  have z0 := cell_of (i := 0) k8 rfl
  have z1 := cell_of (i := 1) k8 rfl
  have z2 := cell_of (i := 2) k8 rfl
  have z3 := cell_of (i := 3) k8 rfl
  have z4 := cell_of (i := 4) k8 rfl
  have z5 := cell_of (i := 5) k8 rfl
  have z6 := cell_of (i := 6) k8 rfl
  have z7 := cell_of (i := 7) k8 rfl
  refine bodyPost_ret (v := .agg #[.int .i64 (cc : Nat), .slice none 0 0, .slice none 0 0, .slice none 0 0, .slice none 0 0, .int .i64 0, .int .i64 0, .bool false]) (by simp [results, Tryz.results25, go_sem, z0, z1, z2, z3, z4, z5, z6, z7]) rfl ⟨_, rfl, ⟨_, _, _, _, rfl, AnsC.zero rfl rfl rfl rfl⟩, ?_⟩
  exact ask_end HL.out hx hBw ((((((((((Frm.refl _ _).setCell _ _ (fun _ => .inr rfl)).setCell _ _ (fun _ => .inl rfl)).setCell _ _ (fun _ => .inl rfl)).setCell _ _ (fun _ => .inl rfl)).setCell _ _ (fun _ => .inl rfl)).setCell _ _ (fun _ => .inl rfl)).setCell _ _ (fun _ => .inl rfl)).setCell _ _ (fun _ => .inl rfl)).setCell _ _ (fun _ => .inl rfl))
theorem Next.askOff {B : Nat} {w0 w wa : World} {b : Nat} {lab : Nat → Option Lb} {eb : Nat → Addr} {n m : Nat} {D : Disk} (h : Next B w0 lab w b eb l7 n m D) (hoff : D.off = true) (h15 : Errs15 B w eb) (hBw : B ≤ w.heap.size) (hw : Frm (fun k => B ≤ k) wa w) (hB : wa.heap.size ≤ B) (o : OpS) (v : Value) (ho : OpIn wa o v) (ok : OpOk o) (hf : DFit (n + 1) m) :
    Calls Tryz.prog 25 #[dptr b, v] w fun e w' => ∃ av, e = .returned av ∧ AnsAt w' w.heap.size av (D.ask o).1 ∧ Next B w0 lab w' b eb l7 n m D := by
  have hd := (ask_dark hoff o).1
  obtain ⟨lab1, h1, h2⟩ := h.then_
  by_cases hk : o.kind = 2
  · have K := asked_2_off h1 h15 hBw hw hB o v ho ok hoff hk
    rw [hd] at K
    exact K.mono (by rintro e w' ⟨av, e1, e2, e3⟩; exact ⟨av, e1, e2, h2 e3⟩)
  · have K := asked_calls h1 h15 hBw hw hB o v ho ok (Nat.le_refl m) (fun e => absurd e hk) hf
    rw [hd] at K
    exact K.mono (by rintro e w' ⟨av, e1, e2, e3⟩; exact ⟨av, e1, e2, h2 (e3.shrink h1.sz h1.fit)⟩)
end Go.Proofs.YtglhedahannjiaaGreatDoor.Dw

/- The pure disk: an operation in which the power goes. -/
namespace Go.Proofs.YtglhedahannjiaaGreatDoor.Dm
set_option linter.unusedVariables false
theorem crash_congr {D E : Disk} (hf : E.files = D.files) (hs : E.sure = D.sure) (hc : E.changes = D.changes) (fs : List Int) (k : Int) : E.crash fs k = D.crash fs k := by
  have hl : ∀ j, E.left j = D.left j := fun j => by unfold Disk.left; rw [hs, hc]
  have hfile : ∀ i, E.file i = D.file i := fun i => by unfold Disk.file; rw [hf]
  unfold Disk.crash
  rw [hl]
  exact List.map_congr_left fun p _ => by rw [sidesBy_congr hfile]
structure SafeSame (D E : Disk) : Prop where
  sure : E.sure = D.sure
  file : ∀ i, (E.file i).safe = (D.file i).safe ∧ (E.file i).badSafe = (D.file i).badSafe
theorem SafeSame.crash {D E : Disk} (h : SafeSame D E) (hD : Inv D) (hE : Inv E) : E.crash [] 0 = D.crash [] 0 := by
  rw [crash_lost hE, crash_lost hD, h.sure]
  exact List.map_congr_left fun p _ => by rw [(h.file p.2).1, (h.file p.2).2]
theorem SafeSame.of {D E : Disk} (hf : E.files = D.files) (hs : E.sure = D.sure) : SafeSame D E := ⟨hs, fun i => by unfold Disk.file; rw [hf]; exact ⟨rfl, rfl⟩⟩
theorem SafeSame.trans {A B C : Disk} (h : SafeSame A B) (k : SafeSame B C) : SafeSame A C := ⟨k.sure.trans h.sure, fun i => ⟨(k.file i).1.trans (h.file i).1, (k.file i).2.trans (h.file i).2⟩⟩
theorem safe_create (n : Name) (D : Disk) : SafeSame D (Disk.doCreate n D) := by
  refine ⟨rfl, fun i => ?_⟩
  have : (Disk.doCreate n D).file i = D.file i := by
    unfold Disk.file Disk.doCreate
    simp only []
    rcases Nat.lt_trichotomy i D.files.length with h | h | h
    · rw [List.getElem?_append_left h]
    · rw [List.getElem?_append_right (by omega), h, Nat.sub_self, List.getElem?_eq_none (Nat.le_refl _)]; rfl
    · rw [List.getElem?_append_right (by omega), List.getElem?_eq_none (l := D.files) (by omega), List.getElem?_eq_none (by simp; omega)]
  rw [this]; exact ⟨rfl, rfl⟩
theorem safe_append {n : Name} {x : List Int} {D : Disk} (hi : ∀ i, find D.now n = some i → i < D.files.length) : SafeSame D (Disk.onFile n (FileS.add x) D) := by
  unfold Disk.onFile
  cases h : find D.now n with
  | none => exact ⟨rfl, fun i => ⟨rfl, rfl⟩⟩
  | some i =>
    refine ⟨rfl, fun j => ?_⟩
    simp only []
    rw [file_modify _ _ _ (hi i h)]
    split
    · unfold FileS.add; split <;> exact ⟨rfl, rfl⟩
    · exact ⟨rfl, rfl⟩
theorem safe_rename (a b : Name) (D : Disk) : SafeSame D (Disk.doRename a b D) := by
  unfold Disk.doRename
  split
  · exact ⟨rfl, fun _ => ⟨rfl, rfl⟩⟩
  · split
    · exact SafeSame.of rfl rfl
    · exact ⟨rfl, fun _ => ⟨rfl, rfl⟩⟩
theorem safe_remove (n : Name) (D : Disk) : SafeSame D (Disk.doRemove n D) := SafeSame.of rfl rfl
theorem run_cut0 {D : Disk} (hoff : D.off = false) (ref : Err) (act : Disk → Disk) (wt : Bool) (part : Option (Int → Disk → Disk)) : (D.arm [] 1).run ref act wt part = (eDown, if ref = 0 ∧ wt = true then act (D.arm [] 1).tick.dark else (D.arm [] 1).tick.dark) := by
  have e : D.arm [] 1 = { D with fails := [], cut := 1, since := 0 } := by unfold Disk.arm; rw [if_neg (by rw [hoff]; simp)]
  rw [e]
  unfold Disk.run
  rw [if_neg (by rw [hoff]; simp)]
  have ha : ({ D with fails := [], cut := 1, since := 0 } : Disk).tick.armed = .cut := rfl
  rw [ha]
/-- The power goes in an operation. -/
theorem ask_cut {D : Disk} (hi : Inv D) (hoff : D.off = false) (o : OpS) (h1 : 1 ≤ o.kind) (h7 : o.kind ≤ 7) :
    ((D.arm [] 1).ask o).1.e = 7 ∧ ((D.arm [] 1).ask o).2.off = true ∧ ((D.arm [] 1).ask o).2.count = D.count + 1 ∧ SafeSame D ((D.arm [] 1).ask o).2 ∧
    (o.kind = 3 ∨ o.kind = 4 ∨ o.kind = 7 → ∀ fs k, ((D.arm [] 1).ask o).2.crash fs k = D.crash fs k) := by
  have hal := arm_alike (D := D) [] 1
  obtain ⟨T, hT⟩ : ∃ T, T = (D.arm [] 1).tick.dark := ⟨_, rfl⟩
  have t1 : T.off = true := by rw [hT]; rfl
  have t2 : T.count = D.count + 1 := by rw [hT]; show (D.arm [] 1).count + 1 = _; rw [arm_count]
  have t3 : T.files = D.files := by rw [hT]; exact hal.files
  have t4 : T.now = D.now := by rw [hT]; exact hal.now
  have t5 : T.sure = D.sure := by rw [hT]; exact hal.sure
  have t6 : T.changes = D.changes := by rw [hT]; exact hal.changes
  have ts : SafeSame D T := SafeSame.of t3 t5
  have key : ∀ (ref : Err) (act : Disk → Disk) (wt : Bool) (part : Option (Int → Disk → Disk)), ((act T).off = true ∧ (act T).count = D.count + 1 ∧ SafeSame D (act T)) → ∃ E, (D.arm [] 1).run ref act wt part = (eDown, E) ∧ E.off = true ∧ E.count = D.count + 1 ∧ SafeSame D E ∧ (wt = false → E = T) := by
    intro ref act wt part h
    rw [run_cut0 hoff, ← hT]
    by_cases hc : ref = 0 ∧ wt = true
    · exact ⟨act T, by rw [if_pos hc], h.1, h.2.1, h.2.2, fun hw => by rw [hw] at hc; cases hc.2⟩
    · exact ⟨T, by rw [if_neg hc], t1, t2, ts, fun _ => rfl⟩
  have tc : ∀ fs k, T.crash fs k = D.crash fs k := crash_congr t3 t5 t6
  have hk : o.kind = 1 ∨ o.kind = 2 ∨ o.kind = 3 ∨ o.kind = 4 ∨ o.kind = 5 ∨ o.kind = 6 ∨ o.kind = 7 := by omega
  rcases hk with h | h | h | h | h | h | h
  · obtain ⟨E, e0, e1, e2, e3, _⟩ := key ((D.arm [] 1).refuseCreate o.name) (Disk.doCreate o.name) true none ⟨t1, t2, ts.trans (safe_create _ _)⟩
    have ea : (D.arm [] 1).ask o = ({ e := ((D.arm [] 1).create o.name).1 }, ((D.arm [] 1).create o.name).2) := by unfold Disk.ask; rw [if_pos h]
    rw [ea, show (D.arm [] 1).create o.name = (eDown, E) from e0]
    exact ⟨rfl, e1, e2, e3, fun hh => by omega⟩
  · obtain ⟨E, e0, e1, e2, e3, _⟩ := key ((D.arm [] 1).gone o.name) (Disk.onFile o.name (FileS.add o.data)) true (some fun p => Disk.onFile o.name (FileS.add (o.data.take p.toNat))) (by
      have hs : SafeSame T (Disk.onFile o.name (FileS.add o.data) T) := safe_append (fun i hf => by
        rw [t3]; rw [t4] at hf
        exact hi.now.lt (o.name, i) ((find_iff hi.now.names o.name i).1 hf))
      refine ⟨?_, ?_, ts.trans hs⟩
      · unfold Disk.onFile; split <;> exact t1
      · unfold Disk.onFile; split <;> exact t2)
    have ea : (D.arm [] 1).ask o = ({ e := ((D.arm [] 1).append o.name o.data).1 }, ((D.arm [] 1).append o.name o.data).2) := by unfold Disk.ask; rw [if_neg (by omega), if_pos h]
    rw [ea, show (D.arm [] 1).append o.name o.data = (eDown, E) from e0]
    exact ⟨rfl, e1, e2, e3, fun hh => by omega⟩
  · have e0 : (D.arm [] 1).sync o.name = (eDown, T) := by
      show (D.arm [] 1).run _ _ false none = _
      rw [run_cut0 hoff, if_neg (by simp), hT]
    have ea : (D.arm [] 1).ask o = ({ e := ((D.arm [] 1).sync o.name).1 }, ((D.arm [] 1).sync o.name).2) := by unfold Disk.ask; rw [if_neg (by omega), if_neg (by omega), if_pos h]
    rw [ea, e0]
    exact ⟨rfl, t1, t2, ts, fun _ => tc⟩
  · have e0 : (D.arm [] 1).truncate o.name o.n = (eDown, T) := by
      show (D.arm [] 1).run _ _ false none = _
      rw [run_cut0 hoff, if_neg (by simp), hT]
    have ea : (D.arm [] 1).ask o = ({ e := ((D.arm [] 1).truncate o.name o.n).1 }, ((D.arm [] 1).truncate o.name o.n).2) := by unfold Disk.ask; rw [if_neg (by omega), if_neg (by omega), if_neg (by omega), if_pos h]
    rw [ea, e0]
    exact ⟨rfl, t1, t2, ts, fun _ => tc⟩
  · obtain ⟨E, e0, e1, e2, e3, _⟩ := key ((D.arm [] 1).refuseRename o.name o.to_) (Disk.doRename o.name o.to_) true none (by
      refine ⟨?_, ?_, ts.trans (safe_rename _ _ _)⟩
      · unfold Disk.doRename; split <;> (try split) <;> exact t1
      · unfold Disk.doRename; split <;> (try split) <;> exact t2)
    have ea : (D.arm [] 1).ask o = ({ e := ((D.arm [] 1).rename o.name o.to_).1 }, ((D.arm [] 1).rename o.name o.to_).2) := by unfold Disk.ask; rw [if_neg (by omega), if_neg (by omega), if_neg (by omega), if_neg (by omega), if_pos h]
    rw [ea, show (D.arm [] 1).rename o.name o.to_ = (eDown, E) from e0]
    exact ⟨rfl, e1, e2, e3, fun hh => by omega⟩
  · obtain ⟨E, e0, e1, e2, e3, _⟩ := key ((D.arm [] 1).gone o.name) (Disk.doRemove o.name) true none ⟨t1, t2, ts.trans (safe_remove _ _)⟩
    have ea : (D.arm [] 1).ask o = ({ e := ((D.arm [] 1).remove o.name).1 }, ((D.arm [] 1).remove o.name).2) := by unfold Disk.ask; rw [if_neg (by omega), if_neg (by omega), if_neg (by omega), if_neg (by omega), if_neg (by omega), if_pos h]
    rw [ea, show (D.arm [] 1).remove o.name = (eDown, E) from e0]
    exact ⟨rfl, e1, e2, e3, fun hh => by omega⟩
  · have e0 : (D.arm [] 1).syncNames = (eDown, T) := by
      show (D.arm [] 1).run _ _ false none = _
      rw [run_cut0 hoff, if_neg (by simp), hT]
    have ea : (D.arm [] 1).ask o = ({ e := (D.arm [] 1).syncNames.1 }, (D.arm [] 1).syncNames.2) := by unfold Disk.ask; rw [if_neg (by omega), if_neg (by omega), if_neg (by omega), if_neg (by omega), if_neg (by omega), if_neg (by omega), if_pos h]
    rw [ea, e0]
    exact ⟨rfl, t1, t2, ts, fun _ => tc⟩
end Go.Proofs.YtglhedahannjiaaGreatDoor.Dm
