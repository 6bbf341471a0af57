/- A part of the proof of diskSynced_holds: Dp8, Fp, LawSynced, Read, Fn. No condition. -/
import Derived.Deep.Slices
import Derived.Deep.Fields
import Derived.ChangeSame
import Derived.SizedLaws
import Derived.Carry
import Derived.Test.YtglhedahannjiaaGreatDoorC29

/- The pure disk: all files and the names synced. -/
namespace Go.Proofs.YtglhedahannjiaaGreatDoor.Dm
set_option linter.unusedVariables false
/-- Nothing is told to fail. -/
structure Quiet (D : Disk) : Prop where
  off : D.off = false
  fails : D.fails = []
  cut : D.cut = 0
theorem Quiet.run {D : Disk} (h : Quiet D) (refused : Err) (act : Disk → Disk) (waits : Bool) (part : Option (Int → Disk → Disk)) : D.run refused act waits part = if refused = 0 then (0, act D.tick) else (refused, D.tick) := by
  unfold Disk.run
  rw [if_neg (by rw [h.off]; simp)]
  have : D.tick.armed = .goes := by
    unfold Disk.armed Disk.tick
    simp only [h.cut, h.fails, List.find?_nil]
    rw [if_neg (by omega)]
  rw [this]
theorem fresh_quiet (D : Disk) : Quiet D.fresh := by
  refine ⟨fresh_off D, ?_, ?_⟩
  all_goals
    unfold Disk.fresh
    by_cases h : D.off = true
    · rw [if_pos h]; rfl
    · rw [if_neg h]; unfold Disk.arm; rw [if_neg h]
def syncs (D : Disk) (ns : List Name) : Disk := ns.foldl (fun D n => (D.sync n).2) D
theorem syncs_snoc (D : Disk) (ns : List Name) (n : Name) : syncs D (ns ++ [n]) = ((syncs D ns).sync n).2 := by unfold syncs; rw [List.foldl_append]; rfl
structure Synced (D E : Disk) (l : List (Name × Nat)) : Prop where
  quiet : Quiet E
  now : E.now = D.now
  sure : E.sure = D.sure
  changes : E.changes = D.changes
  len : E.files.length = D.files.length
  count : E.count = D.count + l.length
  file : ∀ i, E.file i = if i ∈ l.map (·.2) then (D.file i).sync else D.file i
theorem Synced.none {D : Disk} (h : Quiet D) : Synced D D [] := ⟨h, rfl, rfl, rfl, rfl, rfl, fun i => by simp⟩
theorem file_modify (D : Disk) (i j : Nat) (hi : i < D.files.length) (g : FileS → FileS) : (D.modify i g).file j = if i = j then g (D.file j) else D.file j := by
  unfold Disk.file Disk.modify
  simp only [List.getElem?_modify]
  by_cases h : i = j
  · subst h
    rw [if_pos rfl, List.getElem?_eq_getElem hi]; simp
  · rw [if_neg h]
    cases D.files[j]? <;> simp [h]
theorem Synced.next {D E : Disk} {l : List (Name × Nat)} (h : Synced D E l) (p : Name × Nat) (hp : find D.now p.1 = some p.2) (hlt : p.2 < D.files.length) : (E.sync p.1).1 = 0 ∧ Synced D (E.sync p.1).2 (l ++ [p]) := by
  have hf : find E.now p.1 = some p.2 := by rw [h.now]; exact hp
  have hg : E.gone p.1 = 0 := by unfold Disk.gone; rw [hf]; rfl
  have e : E.sync p.1 = (0, E.tick.modify p.2 FileS.sync) := by
    unfold Disk.sync
    rw [h.quiet.run, if_pos hg]
    unfold Disk.onFile
    rw [tick_now, hf]
  rw [e]
  refine ⟨rfl, ⟨⟨h.quiet.off, h.quiet.fails, h.quiet.cut⟩, h.now, h.sure, h.changes, by show (E.files.modify _ _).length = _; rw [List.length_modify]; exact h.len, by show E.count + 1 = _; rw [h.count, List.length_append]; rfl, fun i => ?_⟩⟩
  show (E.tick.modify p.2 FileS.sync).file i = _
  rw [file_modify _ _ _ (by show p.2 < E.files.length; rw [h.len]; exact hlt)]
  show (if p.2 = i then (E.file i).sync else E.file i) = _
  rw [h.file i]
  simp only [List.map_append, List.map_cons, List.map_nil, List.mem_append, List.mem_singleton]
  by_cases h1 : p.2 = i
  · have hin : i ∈ l.map (·.2) ∨ i = p.2 := Or.inr h1.symm
    rw [if_pos h1, if_pos hin]
    by_cases h2 : i ∈ l.map (·.2)
    · rw [if_pos h2]; rfl
    · rw [if_neg h2]
  · rw [if_neg h1]
    by_cases h2 : i ∈ l.map (·.2)
    · have hin : i ∈ l.map (·.2) ∨ i = p.2 := Or.inl h2
      rw [if_pos h2, if_pos hin]
    · have hin : ¬ (i ∈ l.map (·.2) ∨ i = p.2) := fun h3 => h3.elim h2 fun h3 => h1 h3.symm
      rw [if_neg h2, if_neg hin]
/-- All files, then the names: what is behind it. -/
theorem Synced.last {D E : Disk} (hi : Inv D) (hq : Quiet D) (h : Synced D E (inOrder D.now)) (hE : Inv E.syncNames.2) : E.syncNames.1 = 0 ∧ E.syncNames.2.off = false ∧ E.syncNames.2.count = D.count + D.now.length + 1 ∧ E.syncNames.2.waitingN = 0 ∧ E.syncNames.2.changes = [] ∧ E.syncNames.2.seenImg = D.seenImg ∧ ∀ fs k, E.syncNames.2.crash fs k = D.seenImg := by
  have hr : E.syncNames = (0, E.tick.doSyncNames) := by unfold Disk.syncNames; rw [h.quiet.run, if_pos rfl]
  rw [hr] at hE ⊢
  simp only [] at hE ⊢
  have hfile : ∀ i, E.tick.doSyncNames.file i = if i ∈ (inOrder D.now).map (·.2) then (D.file i).sync else D.file i := h.file
  have hnow : E.tick.doSyncNames.now = D.now := h.now
  have hsure : E.tick.doSyncNames.sure = D.now := by
    rw [← hi.left]
    show (E.changes.take E.changes.length).foldl apply E.sure = _
    rw [h.changes, h.sure]; rfl
  have hin : ∀ p, p ∈ inOrder D.now → E.tick.doSyncNames.file p.2 = (D.file p.2).sync := fun p hp => by rw [hfile, if_pos (List.mem_map_of_mem hp)]
  have hw : ∀ p, p ∈ inOrder D.now → waitList (E.tick.doSyncNames.file p.2) = [] := fun p hp => by rw [hin p hp]; unfold waitList FileS.sync; simp
  have hoff : D.seenImg = (inOrder D.now).map fun p => plain p.1 ⟨(D.file p.2).seen, (D.file p.2).badSeen⟩ := by
    unfold Disk.seenImg
    rw [if_neg (by rw [hq.off]; simp)]
  refine ⟨trivial, h.quiet.off, ?_, ?_, rfl, ?_, fun fs k => ?_⟩
  · show E.count + 1 = _
    rw [h.count, (inOrder_perm _).length_eq]
  · unfold Disk.waitingN
    rw [hnow, List.map_congr_left (g := fun _ => 0) fun p hp => by rw [hw p ((inOrder_perm _).mem_iff.2 hp)]; rfl]
    rw [List.map_const', List.sum_replicate_nat, Nat.mul_zero]
  · rw [hoff]
    unfold Disk.seenImg
    rw [if_neg (by rw [show E.tick.doSyncNames.off = false from h.quiet.off]; simp), hnow]
    exact List.map_congr_left fun p hp => by rw [hin p hp]; rfl
  · obtain ⟨c, _, e⟩ := crash_eq hE fs k
    have el : E.tick.doSyncNames.left k.toNat = D.now := by
      have : E.tick.doSyncNames.left k.toNat = E.tick.doSyncNames.sure := by unfold Disk.left; rw [show E.tick.doSyncNames.changes = [] from rfl]; simp
      rw [this, hsure]
    rw [e, el, hoff]
    refine List.map_congr_left fun p hp => ?_
    have hk : ((D.file p.2).sync).safe.length ≤ ((D.file p.2).sync).seen.length := Nat.le_refl _
    rw [hw p hp, hin p hp, fated_lost _ hk (fun x hx => by simp [fatesFrom] at hx)]
    rfl
end Go.Proofs.YtglhedahannjiaaGreatDoor.Dm

/- A disk that turns, and what is held beside it. -/
namespace Go.Proofs.YtglhedahannjiaaGreatDoor.Dw
open Go.RowKit Go.ChangeMaps Go.Proofs.YtglhedahannjiaaGreatDoor.Mp Go.Proofs.YtglhedahannjiaaGreatDoor.Dm Go.Proofs.YtglhedahannjiaaGreatDoor.Da
open Go.Proofs.YtglhedahannjiaaGreatDoorW.PrintWords (Kd ReadsInt)
set_option linter.unusedVariables false
set_option linter.unusedSimpArgs false
set_option linter.unusedSectionVars false
theorem ImgAt.keep {w W : World} {base : Nat} {v : Value} {l : List Plain} {F : Nat → Prop} (h : ImgAt w base v l) (hf : Frm F w W) (hF : ∀ k, F k → k < base) : ImgAt W base v l := by
  obtain ⟨A, c, e, h⟩ := h
  refine ⟨A, c, e, ?_⟩
  have h1 := Kd.R_bound h
  exact Kd.R_mono (Kd.R_step h1 (fun k hk hlt => hf.block k hlt (fun hF' => by have := hF k hF'; have := hk.2.1; omega))) (fun _ hk => hk.1)
section
variable {B : Nat} {w0 w : World} {b : Nat} {lab : Nat → Option Lb} {eb : Nat → Addr} {n m : Nat} {D : Disk}
theorem Live.lab_lt (h : Live B w b lab eb l7 n m D) : ∀ k, Ft lab k → k < w.heap.size := by
  obtain ⟨A, h1⟩ := h.dsk
  intro k hk
  obtain ⟨p, hp⟩ := Option.isSome_iff_exists.1 hk
  exact (h1.base k p hp).2
theorem Live.self (h : Live B w b lab eb l7 n m D) : Next B w lab w b eb l7 n m D := h.stay (Frm.refl _ _)
theorem Next.then_ (h : Next B w0 lab w b eb l7 n m D) : ∃ lab1, Live B w b lab1 eb l7 n m D ∧ ∀ {w2 n' m' D'}, Next B w lab1 w2 b eb l7 n' m' D' → Next B w0 lab w2 b eb l7 n' m' D' := by
  obtain ⟨lab1, h1, h2, h3⟩ := h
  refine ⟨lab1, h1, fun {w2 n' m' D'} h => ?_⟩
  obtain ⟨lab2, k1, k2, k3⟩ := h
  exact ⟨lab2, k1, h2.trans k2 (fun k hk hl => h3 k hk hl), fun k hk hl => h3 k hk (k3 k (Nat.lt_of_lt_of_le hk h2.size) hl)⟩
theorem Next.frmF (h : Next B w0 lab w b eb l7 n m D) : Frm (Ft lab) w0 w := h.choose_spec.2.1
theorem Next.on (h : Next B w0 lab w b eb l7 n m D) {w2 : World} (hf : Frm (fun _ => False) w w2) : Next B w0 lab w2 b eb l7 n m D := by
  obtain ⟨lab1, h1, h2⟩ := h.then_
  exact h2 (h1.stay hf)
theorem Next.inv (h : Next B w0 lab w b eb l7 n m D) : Inv D := h.choose_spec.1.inv
theorem Next.sz (h : Next B w0 lab w b eb l7 n m D) : Sz n m D := h.choose_spec.1.sz
theorem Next.seenOk (h : Next B w0 lab w b eb l7 n m D) : ImgOk D.seenImg := imgOk_of (seen_img h.inv) (seen_len h.inv h.sz.len).2 (by have := h.choose_spec.1.hm; omega)
theorem Next.crashOk (h : Next B w0 lab w b eb l7 n m D) (fs : List Int) (k : Int) : ImgOk (D.crash fs k) := imgOk_of (crash_img h.inv fs k) (crash_len h.inv fs k h.sz.len).2 (by have := h.choose_spec.1.hm; omega)
theorem Next.syncC (h : Next B w0 lab w b eb l7 n m D) (hf : DFit (n + 1) m) (nm : Name) :
    Calls Tryz.prog 14 #[dptr b, .string nm] w fun e w' => e = .returned (errV eb (D.sync nm).1) ∧ Next B w0 lab w' b eb l7 (n + 1) m (D.sync nm).2 := by
  obtain ⟨lab1, h1, h2⟩ := h.then_
  exact (h1.syncW hf nm).mono (by rintro e w' ⟨e1, e2⟩; exact ⟨e1, h2 e2⟩)
theorem Next.syncNamesC (h : Next B w0 lab w b eb l7 n m D) (hf : DFit (n + 1) m) :
    Calls Tryz.prog 15 #[dptr b] w fun e w' => e = .returned (errV eb D.syncNames.1) ∧ Next B w0 lab w' b eb l7 (n + 1) m D.syncNames.2 := by
  obtain ⟨lab1, h1, h2⟩ := h.then_
  exact (h1.syncNamesW hf).mono (by rintro e w' ⟨e1, e2⟩; exact ⟨e1, h2 e2⟩)
theorem Next.seenC (h : Next B w0 lab w b eb l7 n m D) :
    Calls Tryz.prog 29 #[dptr b] w fun e w' => ∃ A c, e = .returned (.agg #[.slice A D.seenImg.length c]) ∧ ImgAt w' w.heap.size (.agg #[.slice A D.seenImg.length c]) D.seenImg ∧ Frm (fun _ => False) w w' := by
  obtain ⟨lab1, h1, h2⟩ := h.then_
  refine h1.seen.mono ?_
  rintro e w' ⟨v, rfl, hv, hf⟩
  obtain ⟨A, c, rfl, _⟩ := id hv
  exact ⟨A, c, rfl, hv, hf⟩
theorem Next.safeC (h : Next B w0 lab w b eb l7 n m D) :
    Calls Tryz.prog 31 #[dptr b] w fun e w' => ∃ A c, e = .returned (.agg #[.slice A (D.crash [] 0).length c]) ∧ ImgAt w' w.heap.size (.agg #[.slice A (D.crash [] 0).length c]) (D.crash [] 0) ∧ Frm (fun _ => False) w w' := by
  obtain ⟨lab1, h1, h2⟩ := h.then_
  refine h1.safe.mono ?_
  rintro e w' ⟨v, rfl, hv, hf⟩
  obtain ⟨A, c, rfl, _⟩ := id hv
  exact ⟨A, c, rfl, hv, hf⟩
theorem Next.crashC (h : Next B w0 lab w b eb l7 n m D) (fs : List Int) (k : Int) (p : Option Addr) (c : Nat) (hfs : ∀ j (hj : j < fs.length), ∃ ad, p = some ad ∧ w.cell? (ad.add j) = some (.int .i64 fs[j])) (hfl : fs.length ≤ 4611686018427387904) :
    Calls Tryz.prog 17 #[dptr b, .agg #[.slice p fs.length c, .int .i64 k]] w fun e w' => ∃ A c, e = .returned (.agg #[.slice A (D.crash fs k).length c]) ∧ ImgAt w' w.heap.size (.agg #[.slice A (D.crash fs k).length c]) (D.crash fs k) ∧ Frm (fun _ => False) w w' := by
  obtain ⟨lab1, h1, h2⟩ := h.then_
  refine (h1.crash fs k p c hfs hfl).mono ?_
  rintro e w' ⟨v, rfl, hv, hf⟩
  obtain ⟨A, c, rfl, _⟩ := id hv
  exact ⟨A, c, rfl, hv, hf⟩
theorem Next.waitingC (h : Next B w0 lab w b eb l7 n m D) :
    Calls Tryz.prog 16 #[dptr b] w fun e w' => e = .returned (.tuple #[.int .i64 D.waitingN, .int .i64 D.changes.length]) ∧ Frm (fun _ => False) w w' := by
  obtain ⟨lab1, h1, h2⟩ := h.then_
  exact h1.waiting
theorem Next.opsC (h : Next B w0 lab w b eb l7 n m D) : Calls Tryz.prog 33 #[dptr b] w fun e w' => e = .returned (.int .i64 D.count) ∧ w' = w := by
  obtain ⟨lab1, h1, h2⟩ := h.then_
  exact h1.ops
theorem Next.downC (h : Next B w0 lab w b eb l7 n m D) : Calls Tryz.prog 35 #[dptr b] w fun e w' => e = .returned (.bool D.off) ∧ w' = w := by
  obtain ⟨lab1, h1, h2⟩ := h.then_
  exact h1.down
theorem Next.namesC (h : Next B w0 lab w b eb l7 n m D) :
    Calls Tryz.prog 40 #[dptr b] w fun e w' => ∃ p c, e = .returned (.tuple #[.slice p D.names.2.length c, errV eb D.names.1]) ∧ w'.ownsRow w.heap.size 9 1 (.slice p D.names.2.length c) D.names.2.length (strs D.names.2) ∧ Frm (fun _ => False) w w' := by
  obtain ⟨lab1, h1, h2⟩ := h.then_
  refine h1.names.mono ?_
  rintro e w' ⟨v, rfl, hv, hf⟩
  obtain ⟨p, c, rfl⟩ := own_form hv
  exact ⟨p, c, rfl, hv, hf⟩
theorem Next.armC (h : Next B w0 lab w b eb l7 n m D) (v : Value) (fs : List (Int × Int)) (cut : Int) (hv : FailsAt w v fs) (hn : fs.length ≤ 8796093022208) :
    Calls Tryz.prog 42 #[dptr b, v, .int .i64 cut] w fun e w' => e = .returned (.tuple #[]) ∧ Next B w0 lab w' b eb l7 n m (D.arm fs cut) := by
  obtain ⟨lab1, h1, h2⟩ := h.then_
  exact (h1.arm v fs cut hv hn).mono (by rintro e w' ⟨e1, e2⟩; exact ⟨e1, h2 e2⟩)
theorem Next.readC (h : Next B w0 lab w b eb l7 n m D) (nm : Name) :
    Calls Tryz.prog 45 #[dptr b, .string nm] w fun e w' => ∃ dv bv, e = .returned (.tuple #[dv, bv, errV eb (D.read nm).1]) ∧ w'.ownsRow w.heap.size 5 1 dv (D.read nm).2.1.length (u8s (D.read nm).2.1) ∧ w'.ownsRow w.heap.size 3 1 bv (D.read nm).2.2.length (i64s (D.read nm).2.2) ∧ Frm (fun _ => False) w w' := by
  obtain ⟨lab1, h1, h2⟩ := h.then_
  exact h1.read nm
end
end Go.Proofs.YtglhedahannjiaaGreatDoor.Dw

/- Walks: DiskSynced. -/
namespace Go.Proofs.YtglhedahannjiaaGreatDoor.Dw
open Go.RowKit Go.ChangeMaps Go.Proofs.YtglhedahannjiaaGreatDoor.Mp Go.Proofs.YtglhedahannjiaaGreatDoor.Dm Go.Proofs.YtglhedahannjiaaGreatDoor.Da
open Go.Proofs.YtglhedahannjiaaGreatDoorW.PrintWords (Kd ReadsInt)
set_option linter.unusedVariables false
set_option linter.unusedSimpArgs false
set_option linter.unusedSectionVars false
set_option maxHeartbeats 4000000 in
set_option maxRecDepth 100000 in
theorem law_synced {w : World} {eb : Nat → Addr} (h15 : Errs15 w.heap.size w eb) {vi : Value} {l : List Plain} {As : Option Addr} {os : List OpS} {cs : Nat} (ha : ArgsOk w vi l As os cs) (fs : List Int) (fn : Int) (Af : Option Addr) (cf : Nat) (hfs : ∀ j (hj : j < fs.length), ∃ ad, Af = some ad ∧ w.cell? (ad.add j) = some (.int .i64 fs[j])) (hfl : fs.length ≤ 4611686018427387904) :
    Calls Tryz.prog 6 #[vi, .slice As os.length cs, .agg #[.slice Af fs.length cf, .int .i64 fn]] w fun e w' => e = .returned (.bool true) ∧ Frm (fun _ => False) w w' := by
  obtain ⟨Ai, ci, rfl, hci, hCi⟩ := id ha.img
  have KL : Hid (∀ W, Frm (fun _ => False) w W → Calls Tryz.prog 10 #[] W fun e w' => e = .returned (.bool true) ∧ Frm (fun _ => False) W w') := fun W hW => lives_calls ((h15.frm hW (fun _ h => h.elim)).up hW.size).errs
  have KP : Hid (∀ W, Frm (fun _ => False) w W → Calls Tryz.prog 38 #[.agg #[.slice Ai l.length ci], .slice As os.length cs] W fun e w' => ∃ b lab n m D, e = .returned (dptr b) ∧ Live W.heap.size w' b lab eb l7 n m D ∧ n ≤ 1052672 ∧ m ≤ 1048576 ∧ Frm (fun _ => False) W w') :=
    fun W hW => ha.played h15 hW
  have HFS := Lib.hid hfs
  have H15 := Lib.hid h15
  clear ha h15 hfs hCi
  go_enter Tryz.func6, Tryz.ntmps6
  go_upto_region 6 with (first
    | (go_at_call 10; refine (KL.out _ (((Frm.refl _ _).alloc _).alloc _)).mono ?_; rintro e w1 ⟨rfl, f1⟩; have F1 : Hid (Frm (fun _ => False) w w1) := Lib.hid ((((Frm.refl _ _).alloc _).alloc _).trans f1 (fun _ _ h => h)); have x3 : w1.cell? ⟨w.heap.size, 0, none⟩ = some (.slice Ai l.length ci) := cell_of ((f1.block _ (by simp; omega) id).trans ((blk_alloc_lt (by simp)).trans blk_alloc)) rfl; have B5 : Hid (w1.heap[w.heap.size + 1]? = some (.cells #[.slice Af fs.length cf, .int .i64 fn] 39 (0, 0))) := Lib.hid ((f1.block _ (by simp) id).trans (by rw [show w.heap.size + 1 = (w.alloc (.cells #[.slice Ai l.length ci] 36)).heap.size by simp only [World.size_alloc]]; exact blk_alloc)); clear f1)
    | (go_at_call 38; refine (KP.out _ F1.out).mono ?_; rintro e w2 ⟨b, lab, n, m, D0, rfl, hL, hn, hm, f2⟩; have KF := Lib.hid (fresh_calls hL f2.size); have HLV := Lib.hid (And.intro hL (And.intro f2 (And.intro hn hm))); clear hL f2 hn hm x3)
    | (go_at_call 37; refine KF.out.mono ?_; rintro e w3 ⟨b3, rfl, lab3, hL3, hf3, _⟩; unfold dptr; have HL3 := Lib.hid (And.intro hL3 ((HLV.out.2.1.trans hf3 (fun k hk hl => by have := HLV.out.1.base k hl; omega)))); clear hL3 hf3))
  obtain ⟨hL, hfr3⟩ := HL3.out
  have hn := HLV.out.2.2.1
  have hm := HLV.out.2.2.2
  have hfr : Frm (fun _ => False) w w3 := F1.out.trans hfr3 (fun _ _ h => h)
  have hb5 : w3.heap[w.heap.size + 1]? = some (.cells #[.slice Af fs.length cf, .int .i64 fn] 39 (0, 0)) := (hfr3.block _ (Da.blk_lt B5.out) id).trans B5.out
  have hb5l : ¬ Ft lab3 (w.heap.size + 1) := fun hl => by
    have h1 := hL.base _ hl
    have h2 := Da.blk_lt B5.out
    omega
  have hq := fresh_quiet D0
  have hlow : ∀ k, Ft lab3 k → w.heap.size ≤ k := fun k hk => Nat.le_trans F1.out.size (hL.base k hk)
  generalize hB : w1.heap.size = B at *
  clear KL KP KF HLV HL3 F1 B5 hfr3 hB
  generalize D0.fresh = D at *
  obtain ⟨N, hN⟩ : ∃ N, N = (inOrder D.now).length := ⟨_, rfl⟩
  have hN1 : D.names = (0, inOrder D.now) := by unfold Disk.names; rw [if_neg (by rw [hq.off]; simp)]
  have hN2 : D.seenImg.length = N := by unfold Disk.seenImg; rw [if_neg (by rw [hq.off]; simp), List.length_map, hN]
  have hN3 : N ≤ 1052672 := by rw [hN, (inOrder_perm _).length_eq]; exact Nat.le_trans hL.inv.now.len_le (Nat.le_trans hL.sz.files hn)
  have hcount : D.count ≤ 1052672 := Nat.le_trans hL.sz.count hn
  have KN : Hid (∀ W, Frm (fun _ => False) w3 W → Calls Tryz.prog 40 #[dptr b3] W fun e w' => ∃ p c, e = .returned (.tuple #[.slice p N c, .nilIface]) ∧ w'.ownsRow W.heap.size 9 1 (.slice p N c) N (strs (inOrder D.now)) ∧ Frm (fun _ => False) w3 w') := by
    intro W hW
    have := (hL.self.on hW).namesC
    rw [hN1, errV_zero] at this
    simp only [← hN] at this
    exact this.mono (by rintro e w' ⟨p, c, e1, e2, e3⟩; exact ⟨p, c, e1, e2, hW.trans e3 (fun _ _ h => h)⟩)
  have KS : Hid (∀ W, Frm (fun _ => False) w3 W → Calls Tryz.prog 29 #[dptr b3] W fun e w' => ∃ p c, e = .returned (.agg #[.slice p N c]) ∧ ImgAt w' W.heap.size (.agg #[.slice p N c]) D.seenImg ∧ Frm (fun _ => False) W w') := by
    intro W hW
    have := (hL.self.on hW).seenC
    rw [hN2] at this
    exact this
  have KO : Hid (∀ W, Frm (fun _ => False) w3 W → Calls Tryz.prog 33 #[dptr b3] W fun e w' => e = .returned (.int .i64 D.count) ∧ w' = W) := fun W hW => (hL.self.on hW).opsC
  have HL := Lib.hid (And.intro hL (And.intro hfr (And.intro hb5 (And.intro hb5l (And.intro hq (And.intro hlow (And.intro hN (And.intro hn hm))))))))
  clear hL hfr hb5 hb5l hq hlow hN hn hm hN1 hN2
  unfold dptr at KN KS KO
  go_wp2_with (first
    | (go_at_call 40; refine (KN.out _ (Frm.refl _ _)).mono ?_; rintro e w4 ⟨p4, c4, rfl, hr4, f4⟩; have H4 := Lib.hid (And.intro hr4 f4); clear hr4 f4)
    | (go_at_call 29; refine (KS.out _ H4.out.2).mono ?_; rintro e w5 ⟨p5, c5, rfl, hi5, f5⟩; have H5 := Lib.hid (And.intro hi5 (And.intro f5 (H4.out.2.trans f5 (fun _ _ h => h)))); clear hi5 f5)
    | (go_at_call 33; refine (KO.out _ (by first | exact H5.out.2.2 | exact H5.out.2.2.alloc _)).mono ?_; rintro e w6 ⟨rfl, rfl⟩))
  obtain ⟨hL, hfr, hb5, hb5l, hq, hlow, hN, hn, hm⟩ := HL.out
  obtain ⟨w6, hw6⟩ : ∃ w6, w6 = w5.alloc (.cells #[.slice p5 N c5] 36) := ⟨_, rfl⟩
  rw [← hw6]
  have f36 : Frm (fun _ => False) w3 w6 := by rw [hw6]; exact H5.out.2.2.alloc _
  have f56 : Frm (fun _ => False) w5 w6 := by rw [hw6]; exact (Frm.refl _ _).alloc _
  have f46 : Frm (fun _ => False) w4 w6 := H5.out.2.1.trans f56 (fun _ _ h => h)
  have box6 : w6.heap[w5.heap.size]? = some (.cells #[.slice p5 N c5] 36 (0, 0)) := by rw [hw6]; exact blk_alloc
  have fat6 : w6.heap[w.heap.size + 1]? = some (.cells #[.slice Af fs.length cf, .int .i64 fn] 39 (0, 0)) := (f36.block _ (Da.blk_lt hb5) id).trans hb5
  have row6 := own_frm H4.out.1 f46
  have img6 : ImgAt w6 w4.heap.size (.agg #[.slice p5 N c5]) D.seenImg := H5.out.1.keep f56 (fun _ h => h.elim)
  have hL6 := hL.frm f36
  have hlt3 := hL.lab_lt
  have hs34 := H4.out.2.size
  have hs35 := H5.out.2.2.size
  have HW : Hid (∀ W n' D', Next B w6 lab3 W b3 eb l7 n' m D' → Frm (fun _ => False) w W ∧ W.ownsRow w3.heap.size 9 1 (.slice p4 N c4) N (strs (inOrder D.now)) ∧ ImgAt W w4.heap.size (.agg #[.slice p5 N c5]) D.seenImg ∧ W.heap[w5.heap.size]? = some (.cells #[.slice p5 N c5] 36 (0, 0)) ∧ W.heap[w.heap.size + 1]? = some (.cells #[.slice Af fs.length cf, .int .i64 fn] 39 (0, 0))) := by
    intro W n' D' h
    have hf := h.frmF
    refine ⟨(hfr.trans f36 (fun _ _ h => h)).trans hf (fun k hk hl => by have := hlow k hl; omega), own_frm_off row6 hf (fun k hk hl => ?_), img6.keep hf (fun k hl => Nat.lt_of_lt_of_le (hlt3 k hl) hs34), (hf.block _ (Da.blk_lt box6) (fun hl => ?_)).trans box6, (hf.block _ (Da.blk_lt fat6) hb5l).trans fat6⟩
    · have h1 := hlt3 k hl
      have h2 := (own_low row6 hk).1
      omega
    · have h1 := hlt3 _ hl
      omega
  obtain ⟨E, hE⟩ : ∃ E : Nat → Disk, ∀ j, E j = syncs D (((inOrder D.now).take j).map (·.1)) := ⟨_, fun _ => rfl⟩
  have hE0 : E 0 = D := hE 0
  have hSy : ∀ j, j ≤ N → Synced D (E j) ((inOrder D.now).take j) ∧ (j < N → ∀ p, (inOrder D.now)[j]? = some p → (E j).sync p.1 = (0, E (j + 1))) := by
    have step : ∀ j p, Synced D (E j) ((inOrder D.now).take j) → (inOrder D.now)[j]? = some p → ((E j).sync p.1).1 = 0 ∧ (E j).sync p.1 = (0, E (j + 1)) ∧ Synced D (E (j + 1)) ((inOrder D.now).take (j + 1)) := by
      intro j p h hp
      have hmem : p ∈ D.now := (inOrder_perm _).mem_iff.1 (List.mem_of_getElem? hp)
      have h1 := h.next p ((find_iff hL.inv.now.names p.1 p.2).2 hmem) (hL.inv.now.lt p hmem)
      have e1 : E (j + 1) = ((E j).sync p.1).2 := by
        rw [hE, hE, List.take_add_one, hp]
        show syncs D (((inOrder D.now).take j ++ [p]).map (·.1)) = _
        rw [List.map_append]
        exact syncs_snoc _ _ _
      have e2 : (E j).sync p.1 = (0, E (j + 1)) := by rw [e1, ← h1.1]
      refine ⟨h1.1, e2, ?_⟩
      rw [e1, List.take_add_one, hp]
      exact h1.2
    have all : ∀ j, j ≤ N → Synced D (E j) ((inOrder D.now).take j) := by
      intro j
      induction j with
      | zero => intro _; rw [hE0]; exact Synced.none hq
      | succ j ih =>
        intro hj
        obtain ⟨p, hp⟩ : ∃ p, (inOrder D.now)[j]? = some p := ⟨_, List.getElem?_eq_getElem (by omega)⟩
        exact (step j p (ih (by omega)) hp).2.2
    intro j hj
    exact ⟨all j hj, fun hj2 p hp => (step j p (all j hj) hp).2.1⟩
  have hend := (hSy N (Nat.le_refl _)).1
  rw [hN, List.take_length, ← hN] at hend
  have HE := Lib.hid (And.intro hSy (And.intro hend (And.intro hq hL.inv)))
  have HNN := Lib.hid (And.intro hN (And.intro hn hm))
  have HNX : Hid (Next B w6 lab3 w6 b3 eb l7 (n + 0) m (E 0)) := by rw [hE0]; exact Lib.hid hL6.self
  have hNl : (inOrder D.now).length = N := hN.symm
  have HNL := Lib.hid hNl
  generalize w5.heap.size = q at *
  clear hL hfr hb5 hb5l hq hlow hN hn hm hw6 f36 f56 f46 box6 fat6 row6 img6 hL6 hlt3 hs34 hs35 hE hE0 hSy hend KN KS KO H4 H5 HL hNl
  go_loopw [12] (fun v wr => ∃ j, v = .int .i64 (j : Nat) ∧ j ≤ N ∧ Next B w6 lab3 wr b3 eb l7 (n + j) m (E j)) (fun v _ => N - (intOf v).toNat)
  case atStart => exact ⟨0, rfl, Nat.zero_le _, HNX.out⟩
  case round =>
    obtain ⟨j, rfl, hj, hnx⟩ := hrel
    have hh := HW.out _ _ _ hnx
    by_cases hlt : j < N
    · obtain ⟨p, hp⟩ : ∃ p, (inOrder D.now)[j]? = some p := ⟨_, List.getElem?_eq_getElem (by have := HNL.out; omega)⟩
      obtain ⟨g, c', e, _⟩ := row_shape hh.2.1 (by omega)
      simp only [Value.slice.injEq, true_and] at e
      obtain ⟨rfl, rfl⟩ := e
      have x1 : wr.cell? ⟨g, j, none⟩ = some (.string p.1) := by
        rw [hh.2.1.cellAt j (by omega)]
        unfold strs
        rw [List.getElem?_map, hp]; rfl
      have hs := (HE.out.1 j hj).2 hlt p hp
      have K := hnx.syncC (.mk (by have := HNN.out; omega) (by have := HNN.out; omega) (by have h1 := HNN.out; refine Nat.le_trans (Nat.mul_le_mul (show n + j + 1 ≤ 2105345 by omega) (show (m + 511) / 512 ≤ 2048 by omega)) (by decide))) p.1
      rw [hs, errV_zero] at K
      have HK := Lib.hid K
      clear K hs hp hh hnx
      unfold dptr at HK
      go_wp2_with (first | (go_at_call 14; refine HK.out.mono ?_; rintro e w7 ⟨rfl, hx⟩; have HX := Lib.hid hx; clear hx))
      exact ⟨⟨j + 1, by go_num, by omega, HX.out⟩, by simp [intOf]; omega⟩
    · obtain rfl : j = N := by omega
      have hfit : DFit (n + j + 1) m := .mk (by have := HNN.out; omega) (by have := HNN.out; omega) (by have h1 := HNN.out; refine Nat.le_trans (Nat.mul_le_mul (show n + j + 1 ≤ 2105345 by omega) (show (m + 511) / 512 ≤ 2048 by omega)) (by decide))
      have KSN : Hid (Calls Tryz.prog 15 #[dptr b3] wr fun e w' => e = .returned .nilIface ∧ Next B w6 lab3 w' b3 eb l7 (n + j + 1) m (E j).syncNames.2) := by
        have K := hnx.syncNamesC hfit
        have hz : (E j).syncNames.1 = 0 := by unfold Disk.syncNames; rw [HE.out.2.1.quiet.run, if_pos rfl]
        rw [hz, errV_zero] at K
        exact Lib.hid K
      obtain ⟨F, hF⟩ : ∃ F, F = (E j).syncNames.2 := ⟨_, rfl⟩
      rw [← hF] at KSN
      have hlast : Inv F → F.count = D.count + j + 1 ∧ F.waitingN = 0 ∧ F.changes = [] ∧ F.seenImg = D.seenImg ∧ ∀ fs k, F.crash fs k = D.seenImg := fun hi => by
        rw [hF] at hi ⊢
        obtain ⟨_, _, h1, h2, h3, h4, h5⟩ := HE.out.2.1.last HE.out.2.2.2 HE.out.2.2.1 hi
        refine ⟨?_, h2, h3, h4, h5⟩
        rw [h1, ← (inOrder_perm D.now).length_eq, HNL.out]
      have HLAST := Lib.hid hlast
      have hll : D.seenImg.length = j := by
        have := HE.out.2.2.1.off
        unfold Disk.seenImg
        rw [if_neg (by rw [this]; simp), List.length_map, HNL.out]
      obtain ⟨ls, hls⟩ : ∃ ls, ls = D.seenImg := ⟨_, rfl⟩
      rw [← hls] at HW hll HLAST
      have KOP : Hid (∀ W n', Next B w6 lab3 W b3 eb l7 n' m F → Calls Tryz.prog 33 #[dptr b3] W fun e w' => e = .returned (.int .i64 ((D.count : Int) + (j : Int) + 1)) ∧ w' = W) := fun W n' h => by
        have := h.opsC
        rw [(HLAST.out h.inv).1] at this
        exact this
      have KWT : Hid (∀ W n', Next B w6 lab3 W b3 eb l7 n' m F → Calls Tryz.prog 16 #[dptr b3] W fun e w' => e = .returned (.tuple #[.int .i64 0, .int .i64 0]) ∧ Frm (fun _ => False) W w') := fun W n' h => by
        have := h.waitingC
        rw [(HLAST.out h.inv).2.1, (HLAST.out h.inv).2.2.1] at this
        exact this
      have HLL := Lib.hid hll
      clear hnx hfit hF hlast hls hh hll
      unfold dptr at KSN KOP KWT
      go_upto_region 19 with (first
        | (go_at_call 15; refine KSN.out.mono ?_; rintro e w7 ⟨rfl, hx⟩; have HX7 := Lib.hid hx; clear hx)
        | (go_at_call 33; refine (KOP.out _ _ HX7.out).mono ?_; rintro e w8 ⟨rfl, rfl⟩)
        | (go_at_call 16; refine (KWT.out _ _ HX7.out).mono ?_; rintro e w9 ⟨rfl, f9⟩; have HX9 := Lib.hid (HX7.out.on f9); clear f9))
      have hx := HX9.out
      obtain ⟨hfr, hrow, himg, hbox, hfat⟩ := HW.out _ _ _ hx
      have hrd := himg.rd
      obtain ⟨h1, h2, h3, h4, h5⟩ := HLAST.out hx.inv
      have KS2 : Hid (∀ W, Frm (fun _ => False) w9 W → Calls Tryz.prog 29 #[dptr b3] W fun e w' => ∃ A c, e = .returned (.agg #[.slice A j c]) ∧ ImgRd w' (.agg #[.slice A j c]) ls ∧ Frm (fun _ => False) w9 w') := fun W hW => by
        have := (hx.on hW).seenC
        rw [h4, HLL.out] at this
        exact this.mono (by rintro e w' ⟨A, c, e1, e2, e3⟩; exact ⟨A, c, e1, e2.rd, hW.trans e3 (fun _ _ h => h)⟩)
      have KF2 : Hid (∀ W, Frm (fun _ => False) w9 W → Calls Tryz.prog 31 #[dptr b3] W fun e w' => ∃ A c, e = .returned (.agg #[.slice A j c]) ∧ ImgRd w' (.agg #[.slice A j c]) ls ∧ Frm (fun _ => False) w9 w') := fun W hW => by
        have := (hx.on hW).safeC
        rw [h5, HLL.out] at this
        exact this.mono (by rintro e w' ⟨A, c, e1, e2, e3⟩; exact ⟨A, c, e1, e2.rd, hW.trans e3 (fun _ _ h => h)⟩)
      have KC4 : Hid (∀ W, Frm (fun _ => False) w9 W → Calls Tryz.prog 17 #[dptr b3, .agg #[.slice Af fs.length cf, .int .i64 fn]] W fun e w' => ∃ A c, e = .returned (.agg #[.slice A j c]) ∧ ImgRd w' (.agg #[.slice A j c]) ls ∧ Frm (fun _ => False) w9 w') := fun W hW => by
        have := (hx.on hW).crashC fs fn Af cf (fun j hj => by obtain ⟨ad, e, hc⟩ := HFS.out j hj; exact ⟨ad, e, frm_cell (hfr.trans hW (fun _ _ h => h)) hc⟩) hfl
        rw [h5, HLL.out] at this
        exact this.mono (by rintro e w' ⟨A, c, e1, e2, e3⟩; exact ⟨A, c, e1, e2.rd, hW.trans e3 (fun _ _ h => h)⟩)
      have KI : Hid (∀ W v1 v2 l, ImgRd W v1 l → ImgRd W v2 l → ImgOk l → Calls Tryz.prog 28 #[v1, v2] W fun e w' => e = .returned (.bool true) ∧ Frm (fun _ => False) W w') := fun W v1 v2 l h1 h2 ok => images_same W v1 v2 l h1 h2 ok
      have zz : Hid (∀ W, Frm (fun _ => False) w9 W → W.cell? ⟨q, 0, none⟩ = some (.slice p5 j c5) ∧ W.cell? ⟨w.heap.size + 1, 0, none⟩ = some (.slice Af fs.length cf) ∧ W.cell? ⟨w.heap.size + 1, 1, none⟩ = some (.int .i64 fn)) := fun W hW =>
        ⟨cell_of ((hW.block _ (Da.blk_lt hbox) id).trans hbox) rfl, cell_of ((hW.block _ (Da.blk_lt hfat) id).trans hfat) rfl, cell_of ((hW.block _ (Da.blk_lt hfat) id).trans hfat) rfl⟩
      have S0 := zz.out w9 (Frm.refl _ _)
      have D0 := zz.out w9.drew (Frm.refl _ _).drew
      have HRD := Lib.hid hrd
      have HOK : Hid (ImgOk ls) := by
        have := hx.seenOk
        rw [h4] at this
        exact Lib.hid this
      have HFR := Lib.hid hfr
      clear hx hfr hrow himg hbox hfat hrd h1 h2 h3 h4 h5 KSN KOP KWT HW HNX HX7 HX9 HLAST HE
      unfold dptr at KS2 KF2 KC4
      go_region_held3 (fun w' => w'.cell? ⟨q, 0, none⟩ = some (.slice p5 j c5) ∧ w'.cell? ⟨w.heap.size + 1, 0, none⟩ = some (.slice Af fs.length cf) ∧ w'.cell? ⟨w.heap.size + 1, 1, none⟩ = some (.int .i64 fn))
        (first | exact S0 | exact D0 | exact zz.out _ HX1.out.1 | exact zz.out _ HX2.out | exact zz.out _ HX3.out.1 | exact zz.out _ HX4.out | exact zz.out _ HX5.out.1 | exact zz.out _ HX6.out | go_keep)
        (first
          | (go_at_call 29; (with_reducible refine (KS2.out _ (by first | exact Frm.refl _ _ | exact (Frm.refl _ _).drew)).mono ?_); rintro e u1 ⟨A1, c1, rfl, hr1, f1⟩; have HX1 := Lib.hid (And.intro f1 hr1); clear hr1 f1)
          | (go_at_call 28; (with_reducible refine (KI.out _ _ _ ls HX1.out.2 (HRD.out.frm HX1.out.1) HOK.out).mono ?_); rintro e u2 ⟨rfl, f2⟩; have HX2 : Hid (Frm (fun _ => False) w9 u2) := Lib.hid (HX1.out.1.trans f2 (fun _ _ h => h)); clear f2)
          | (go_at_call 31; (with_reducible refine (KF2.out _ HX2.out).mono ?_); rintro e u3 ⟨A3, c3, rfl, hr3, f3⟩; have HX3 := Lib.hid (And.intro f3 hr3); clear hr3 f3)
          | (go_at_call 28; (with_reducible refine (KI.out _ _ _ ls HX3.out.2 (HRD.out.frm HX3.out.1) HOK.out).mono ?_); rintro e u4 ⟨rfl, f4⟩; have HX4 : Hid (Frm (fun _ => False) w9 u4) := Lib.hid (HX3.out.1.trans f4 (fun _ _ h => h)); clear f4)
          | (go_at_call 17; (with_reducible refine (KC4.out _ HX4.out).mono ?_); rintro e u5 ⟨A5, c5, rfl, hr5, f5⟩; have HX5 := Lib.hid (And.intro f5 hr5); clear hr5 f5)
          | (go_at_call 28; (with_reducible refine (KI.out _ _ _ ls HX5.out.2 (HRD.out.frm HX5.out.1) HOK.out).mono ?_); rintro e u6 ⟨rfl, f6⟩; have HX6 : Hid (Frm (fun _ => False) w9 u6) := Lib.hid (HX5.out.1.trans f6 (fun _ _ h => h)); clear f6))
      all_goals
        go_wp2
        go_ret
        exact ⟨rfl, HFR.out.trans HX6.out (fun _ _ h => h)⟩
end Go.Proofs.YtglhedahannjiaaGreatDoor.Dw

/- How an argument that can be read as data lies in memory, kind by kind: out of the reader's answer, the printed words' own facts (Kd) and the datum. -/
namespace Go.Proofs.YtglhedahannjiaaGreatDoor.Read
open Go.RowKit Go.ChangeShapes Go.WideShapes Go.Deep Go.Proofs.YtglhedahannjiaaGreatDoorW.PrintWords
set_option linter.unusedVariables false
set_option linter.unusedSimpArgs false
section
variable {H : Type}

/-- What type t's cells read as: a value by the kind d, its datum by D. -/
def Rdr (P : Program) (t : TypeId) {α : Type} (d : Kd α) (D : α → DataW H → Prop) : Prop :=
  ∀ (enc : TypeId × Value → H) (w : World) (base : Nat) (spare : Nat → Bool) (held : Bool) (fuel : Nat) (cs : List Value) (x : DataW H × List MemPlace),
    DataW.trod enc P w base spare held fuel t cs = some x → ∃ y, d.K w y cs ∧ D y x.1

def DInt (k : IntKind) (n : Int) (d : DataW H) : Prop := d = .lit (.int k n) ∧ (Lit.int k n).wf = true
def DBool (b : Bool) (d : DataW H) : Prop := d = .lit (.bool b)
def DStr (s : ByteArray) (d : DataW H) : Prop := d = .lit (.string s.data.toList) ∧ s.size ≤ maxLen
def DSlice {α : Type} (D : α → DataW H → Prop) (xs : List α) (d : DataW H) : Prop :=
  xs.length ≤ maxLen ∧ ((xs = [] ∧ d = .nil) ∨ ∃ es sp, d = .slice es sp ∧ es.length = xs.length ∧ ∀ (i : Nat) x e, xs[i]? = some x → es[i]? = some e → D x e)
def DAgg {α : Type} (DL : α → List (DataW H) → Prop) (x : α) (d : DataW H) : Prop := ∃ ds, d = .agg ds ∧ DL x ds
def D1 {α : Type} (D : α → DataW H → Prop) (x : α) (ds : List (DataW H)) : Prop := ∃ d, ds = [d] ∧ D x d
def DC {α β : Type} (D : α → DataW H → Prop) (DL : β → List (DataW H) → Prop) (x : α × β) (ds : List (DataW H)) : Prop := ∃ d r, ds = d :: r ∧ D x.1 d ∧ DL x.2 r

theorem rdr_int {P : Program} {t : TypeId} {k : IntKind} (ht : P.underlying t = some (.int k)) : Rdr (H := H) P t (Kd.int k) (DInt k) := by
  intro enc w base spare held fuel cs x h
  obtain ⟨n, rfl, rfl, hw⟩ := DataW.trod_int ht h
  exact ⟨n, rfl, rfl, hw⟩
theorem rdr_bool {P : Program} {t : TypeId} (ht : P.underlying t = some .bool) : Rdr (H := H) P t Kd.bool DBool := by
  intro enc w base spare held fuel cs x h
  obtain ⟨n, rfl, rfl⟩ := DataW.trod_bool ht h
  exact ⟨n, rfl, rfl⟩
theorem rdr_str {P : Program} {t : TypeId} (ht : P.underlying t = some .string) : Rdr (H := H) P t Kd.string DStr := by
  intro enc w base spare held fuel cs x h
  obtain ⟨s, rfl, rfl, hs⟩ := DataW.trod_string ht h
  exact ⟨s, rfl, rfl, hs⟩
theorem maxLen_eq : maxLen = 9223372036854775807 := by decide
theorem rdr_slice {P : Program} {t e : TypeId} {α : Type} {d : Kd α} {D : α → DataW H → Prop} (ht : P.underlying t = some (.slice e)) (hc : P.cellsOf e = d.sz) (he : Rdr P e d D) :
    Rdr P t (Kd.slice e d) (DSlice D) := by
  intro enc w base spare held fuel cs x h
  rcases open_slice ht h with ⟨rfl, rfl⟩ | ⟨a, len, cap, m, n, Ds, Pl, rfl, hb, hl, hm, hmm, rfl, hx⟩
  · exact ⟨[], ⟨none, 0, rfl, Nat.le_refl _, rfl, by simp, fun h => absurd h (by simp)⟩, Nat.zero_le _, .inl ⟨rfl, rfl⟩⟩
  · have hlm : len ≤ m := by rw [hmm]; split <;> omega
    have each : ∀ i, i < len → ∃ y c, c.length = d.sz ∧ d.K w y c ∧ D y (Ds i) ∧ ∀ j u, c[j]? = some u → w.cell? (a.add (i * d.sz + j)) = some u := by
      intro i hi
      obtain ⟨cs', h1, h2⟩ := hx i (by omega)
      rw [hc] at h1
      obtain ⟨_, hlen, hcell⟩ := World.cells?_some h1
      obtain ⟨y, hk, hd⟩ := he enc w base spare held n cs' _ h2
      refine ⟨y, cs', hlen, hk, hd, fun j u hj => ?_⟩
      have hj' : j < d.sz := by
        have := (List.getElem?_eq_some_iff.1 hj).1
        omega
      have := hcell j hj'
      rw [Go.Deep.add_add] at this
      rw [this, hj]
    obtain ⟨ys, hys, hy⟩ : ∃ ys : List α, ys.length = len ∧ ∀ i, i < len → ∃ y c, ys[i]? = some y ∧ c.length = d.sz ∧ d.K w y c ∧ D y (Ds i) ∧ ∀ j u, c[j]? = some u → w.cell? (a.add (i * d.sz + j)) = some u := by
      clear h hx hl hlm hmm hm hb
      induction len with
      | zero => exact ⟨[], rfl, fun i hi => absurd hi (Nat.not_lt_zero _)⟩
      | succ l ih =>
        obtain ⟨ys, h1, h2⟩ := ih (fun i hi => each i (by omega))
        obtain ⟨y, c, h3, h4, h5, h6⟩ := each l (by omega)
        refine ⟨ys ++ [y], by simp [h1], fun i hi => ?_⟩
        rcases Nat.lt_or_ge i l with hil | hil
        · obtain ⟨y', c', g1, g2⟩ := h2 i hil
          exact ⟨y', c', by rw [List.getElem?_append_left (by omega)]; exact g1, g2⟩
        · obtain rfl : i = l := by omega
          exact ⟨y, c, by rw [List.getElem?_append_right (by omega)]; simp [h1], h3, h4, h5, h6⟩
    have hlen9 : len ≤ 9223372036854775807 := by
      have := maxLen_eq
      omega
    refine ⟨ys, ⟨some a, cap, by rw [hys], by omega, rfl, by omega, fun _ => ⟨a, rfl, fun j p hp => ?_⟩⟩, by omega, .inr ⟨_, _, rfl, by simp [hys], fun i y e hi he' => ?_⟩⟩
    · have hj : j < len := by
        have := (List.getElem?_eq_some_iff.1 hp).1
        omega
      obtain ⟨y, c, h1, h2, h3, _, h4⟩ := hy j hj
      rw [h1] at hp
      obtain rfl := Option.some.inj hp
      exact ⟨c, h2, h3, h4⟩
    · have hj : i < len := by
        have := (List.getElem?_eq_some_iff.1 hi).1
        omega
      obtain ⟨y', c, h1, h2, h3, h5, h4⟩ := hy i hj
      rw [h1] at hi
      obtain rfl := Option.some.inj hi
      rw [List.getElem?_map, List.getElem?_range hj] at he'
      obtain rfl := Option.some.inj he'
      exact h5

/-- The fields of a struct, from cell off on. -/
def Flds (P : Program) (fs : List Field) (off : Nat) {α : Type} (d : Kd α) (DL : α → List (DataW H) → Prop) : Prop :=
  ∀ (enc : TypeId × Value → H) (w : World) (base : Nat) (spare : Nat → Bool) (held : Bool) (n : Nat) (cs : List Value) (xs : List (DataW H × List MemPlace)),
    (∀ (i : Nat) (f : Field), fs[i]? = some f → DataW.trod enc P w base spare held n f.type ((cs.drop f.offset).take (P.cellsOf f.type)) = xs[i]?) → xs.length = fs.length → cs.length = off + d.sz →
    ∃ y, d.K w y (cs.drop off) ∧ DL y (xs.map (·.1))
theorem flds_one {P : Program} {f : Field} {off : Nat} {α : Type} {d : Kd α} {D : α → DataW H → Prop} (ho : f.offset = off) (hc : P.cellsOf f.type = d.sz) (h : Rdr P f.type d D) : Flds P [f] off d (D1 D) := by
  intro enc w base spare held n cs xs hx hl hcs
  match xs, hl with
  | [x], _ =>
    have h0 := hx 0 f rfl
    rw [ho, hc, List.take_of_length_le (by simp; omega)] at h0
    obtain ⟨y, hk, hd⟩ := h enc w base spare held n _ _ h0
    exact ⟨y, hk, _, rfl, hd⟩
theorem flds_cons {P : Program} {f : Field} {fs : List Field} {off off' : Nat} {α β : Type} {a : Kd α} {b : Kd β} {D : α → DataW H → Prop} {DL : β → List (DataW H) → Prop}
    (ho : f.offset = off) (hc : P.cellsOf f.type = a.sz) (h : Rdr P f.type a D) (ho' : off' = off + a.sz) (hr : Flds P fs off' b DL) : Flds P (f :: fs) off (Kd.pair a b) (DC D DL) := by
  intro enc w base spare held n cs xs hx hl hcs
  have hsz : (Kd.pair a b).sz = a.sz + b.sz := rfl
  match xs, hl with
  | x :: xs, hl =>
    have h0 := hx 0 f rfl
    rw [ho, hc] at h0
    obtain ⟨y, hk, hd⟩ := h enc w base spare held n _ _ h0
    obtain ⟨z, hk', hd'⟩ := hr enc w base spare held n cs xs (fun i g hg => hx (i + 1) g hg) (by simpa using hl) (by omega)
    refine ⟨(y, z), ⟨_, _, ?_, hk, hk'⟩, _, _, rfl, hd, hd'⟩
    rw [ho', ← List.drop_drop, List.take_append_drop]
theorem rdr_struct {P : Program} {t : TypeId} {fs : Array Field} {α : Type} {d : Kd α} {DL : α → List (DataW H) → Prop} (ht : P.underlying t = some (.struct fs)) (hc : P.cellsOf t = d.sz) (h : Flds P fs.toList 0 d DL) :
    Rdr P t d (DAgg DL) := by
  intro enc w base spare held fuel cs x hx
  obtain ⟨xs, n, _, rfl, hl, hlen, hg⟩ := DataW.trod_struct ht hx
  obtain ⟨y, hk, hd⟩ := h enc w base spare held n cs xs (fun i f hf => hg i f (by simpa using hf)) (by simpa using hlen) (by omega)
  exact ⟨y, by simpa using hk, _, rfl, hd⟩
theorem rdr_iso {P : Program} {t : TypeId} {α β : Type} {d : Kd α} {D : α → DataW H → Prop} (f : β → α) (g : α → β) (hfg : ∀ x, f (g x) = x) (h : Rdr P t d D) : Rdr P t (Kd.iso d f) (fun x => D (f x)) := by
  intro enc w base spare held fuel cs x hx
  obtain ⟨y, hk, hd⟩ := h enc w base spare held fuel cs x hx
  exact ⟨g y, by show d.K w (f (g y)) cs; rw [hfg]; exact hk, by show D (f (g y)) x.1; rw [hfg]; exact hd⟩

/-- A row's argument that is a slice. -/
theorem open_sl {P : Program} {t e : TypeId} {α : Type} {d : Kd α} {D : List α → DataW H → Prop} {enc : TypeId × Value → H} {w : World} {base : Nat} {spare : Nat → Bool} {held : Bool} {v : Value} {x : DataW H} {ps : List MemPlace} {r : Reach} {b0 : Nat}
    (hr : Rdr P t (Kd.slice e d) D) (ht : P.underlying t = some (.slice e)) (hv : Value.okWide P w r b0 t v) (h : DataW.Trod enc P w base spare held t v x ps) :
    ∃ A c l, v = .slice A (List.length l) c ∧ l.length ≤ c ∧ d.C w A l.length l ∧ D l x := by
  obtain ⟨fuel, hf⟩ := h
  obtain ⟨a, len, cap, rfl⟩ := okWide_slice ht hv
  obtain ⟨l, ⟨A, c, hcs, hlc, hC⟩, hd⟩ := hr _ _ _ _ _ _ _ _ hf
  simp [Value.cells] at hcs
  obtain ⟨rfl, rfl, rfl⟩ := hcs
  exact ⟨_, _, l, rfl, hlc, hC, hd⟩
/-- .. a struct by value. -/
theorem open_st {P : Program} {t : TypeId} {fs : Array Field} {α : Type} {d : Kd α} {D : α → DataW H → Prop} {enc : TypeId × Value → H} {w : World} {base : Nat} {spare : Nat → Bool} {held : Bool} {v : Value} {x : DataW H} {ps : List MemPlace} {r : Reach} {b0 : Nat}
    (hr : Rdr P t d D) (ht : P.underlying t = some (.struct fs)) (hv : Value.okWide P w r b0 t v) (h : DataW.Trod enc P w base spare held t v x ps) :
    ∃ cs y, v = .agg cs ∧ d.K w y cs.toList ∧ D y x := by
  obtain ⟨fuel, hf⟩ := h
  obtain ⟨cs, rfl, hsz⟩ := okWide_struct ht hv
  obtain ⟨y, hk, hd⟩ := hr _ _ _ _ _ _ _ _ hf
  exact ⟨cs, y, rfl, hk, hd⟩
end
end Go.Proofs.YtglhedahannjiaaGreatDoor.Read

/- The arguments of layer 7's laws, read as data: an image, a script, fates; what their weights allow. -/
namespace Go.Proofs.YtglhedahannjiaaGreatDoor.Dw
open Go.RowKit Go.ChangeShapes Go.WideShapes Go.Proofs.YtglhedahannjiaaGreatDoor.Read Go.Proofs.YtglhedahannjiaaGreatDoor.Mp Go.Proofs.YtglhedahannjiaaGreatDoor.Dm Go.Proofs.YtglhedahannjiaaGreatDoor.Da
open Go.Proofs.YtglhedahannjiaaGreatDoorW.PrintWords (Kd ReadsInt)
set_option linter.unusedVariables false
set_option linter.unusedSimpArgs false
set_option linter.unusedSectionVars false
section
variable {H : Type}
/-- A datum of a type keeps to its weights. -/
def Fits (t : TypeId) (d : DataW H) : Prop := ∀ n, n ∈ d.weights Tryz.prog t → n ≤ reachBytes
theorem fits_arg {ts : List TypeId} {ds : List (DataW H)} (h : (DataW.weightsEach Tryz.prog ts ds).all (· ≤ reachBytes) = true) {j : Nat} {t : TypeId} {d : DataW H} (ht : ts[j]? = some t) (hd : ds[j]? = some d) : Fits t d := fun n hn => by
  have := List.all_eq_true.1 h n (DataW.weights_mem_each ht hd n hn)
  simpa using this
theorem weights_all {e : TypeId} : ∀ {l : List (DataW H)} {d : DataW H}, d ∈ l → ∀ n, n ∈ d.weights Tryz.prog e → n ∈ DataW.weightsAll Tryz.prog e l
  | x :: l, d, hd, n, hn => by
    simp only [DataW.weightsAll, List.mem_append]
    rcases List.mem_cons.1 hd with rfl | h
    · exact .inl hn
    · exact .inr (weights_all h n hn)
theorem fits_slice {t e : TypeId} {es sp : List (DataW H)} (h : Fits t (.slice es sp)) (hu : Tryz.prog.underlying t = some (.slice e)) : es.length * Tryz.prog.bytesOf e ≤ reachBytes ∧ ∀ d, d ∈ es → Fits e d := by
  have hw : DataW.weights Tryz.prog t (.slice es sp) = (es.length + sp.length) * Tryz.prog.bytesOf e :: (DataW.weightsAll Tryz.prog e es ++ DataW.weightsAll Tryz.prog e sp) := by simp [DataW.weights, hu]
  constructor
  · have := h _ (by rw [hw]; exact List.mem_cons_self)
    exact Nat.le_trans (Nat.mul_le_mul_right _ (Nat.le_add_right _ _)) this
  · intro d hd n hn
    exact h n (by rw [hw]; exact List.mem_cons_of_mem _ (List.mem_append_left _ (weights_all hd n hn)))
theorem fits_struct {t : TypeId} {fs : Array Field} {ds : List (DataW H)} (h : Fits t (.agg ds)) (hu : Tryz.prog.underlying t = some (.struct fs)) : ∀ (j : Nat) u d, (fs.toList.map (·.type))[j]? = some u → ds[j]? = some d → Fits u d := by
  intro j u d hj hd n hn
  refine h n ?_
  have hw : DataW.weights Tryz.prog t (.agg ds) = DataW.weightsEach Tryz.prog (fs.toList.map (·.type)) ds := by simp [DataW.weights, hu]
  rw [hw]
  exact DataW.weights_mem_each hj hd n hn
/-- Whole numbers in a slice. -/
theorem ints_wf {k : IntKind} {l : List Int} {d : DataW H} (h : DSlice (DInt k) l d) : ∀ x, x ∈ l → (Lit.int k x).wf = true := by
  intro x hx
  obtain ⟨j, hj⟩ := List.getElem?_of_mem hx
  rcases h.2 with ⟨rfl, _⟩ | ⟨es, sp, rfl, hes, hD⟩
  · simp at hj
  · have hjl := (List.getElem?_eq_some_iff.1 hj).1
    exact (hD j x _ hj (List.getElem?_eq_getElem (by omega))).2
theorem u8_wf {l : List Int} {d : DataW H} (h : DSlice (DInt .u8) l d) : ∀ x, x ∈ l → 0 ≤ x ∧ x < 256 := fun x hx => by
  have := ints_wf h x hx
  simp [Lit.wf, IntKind.min, IntKind.max, IntKind.bits, IntKind.signed] at this
  exact ⟨by omega, by omega⟩
theorem i64_wf {x : Int} (h : (Lit.int .i64 x).wf = true) : -9223372036854775808 ≤ x ∧ x ≤ 9223372036854775807 := by
  simp [Lit.wf, IntKind.min, IntKind.max, IntKind.bits, IntKind.signed] at h
  exact ⟨by omega, by omega⟩
set_option maxRecDepth 100000 in
theorem slice_len {α : Type} {t e : TypeId} {D : α → DataW H → Prop} {l : List α} {d : DataW H} (h : DSlice D l d) (hf : Fits t d) (hu : Tryz.prog.underlying t = some (.slice e)) : l.length * Tryz.prog.bytesOf e ≤ reachBytes := by
  rcases h.2 with ⟨rfl, _⟩ | ⟨es, sp, rfl, hes, _⟩
  · simp
  · rw [← hes]; exact (fits_slice hf hu).1
set_option maxRecDepth 100000 in
theorem slice_elem {α : Type} {t e : TypeId} {D : α → DataW H → Prop} {l : List α} {d : DataW H} (h : DSlice D l d) (hf : Fits t d) (hu : Tryz.prog.underlying t = some (.slice e)) {x : α} (hx : x ∈ l) : ∃ dx, D x dx ∧ Fits e dx := by
  obtain ⟨j, hj⟩ := List.getElem?_of_mem hx
  rcases h.2 with ⟨rfl, _⟩ | ⟨es, sp, rfl, hes, hD⟩
  · simp at hj
  · have hjl := (List.getElem?_eq_some_iff.1 hj).1
    have he : es[j]? = some es[j] := List.getElem?_eq_getElem (by omega)
    exact ⟨_, hD j x _ hj he, (fits_slice hf hu).2 _ (List.getElem_mem _)⟩
/-! ### the readers -/
abbrev DFile (p : Plain) (d : DataW H) : Prop := DAgg (DC DStr (DC (DSlice (DInt .u8)) (D1 (DSlice (DInt .i64))))) (p.name, p.data, p.bad) d
abbrev DImg (l : List Plain) (d : DataW H) : Prop := DAgg (D1 (DSlice DFile)) l d
abbrev DFail (p : Int × Int) (d : DataW H) : Prop := DAgg (DC (DInt .i64) (D1 (DInt .i64))) p d
abbrev DFates (p : List Int × Int) (d : DataW H) : Prop := DAgg (DC (DSlice (DInt .i64)) (D1 (DInt .i64))) p d
abbrev DOp (o : OpS) (d : DataW H) : Prop := DAgg (DC (DInt .i64) (DC DStr (DC DStr (DC (DSlice (DInt .u8)) (DC (DInt .i64) (DC (DSlice DFail) (DC (DInt .i64) (D1 DFates)))))))) (o.kind, o.name, o.to_, o.data, o.n, o.fails, o.cut, o.fs, o.fn) d
theorem rdr_i64 : Rdr (H := H) Tryz.prog 3 (Kd.int .i64) (DInt .i64) := rdr_int Tryz.underlying3
theorem rdr_u8s : Rdr (H := H) Tryz.prog 22 (Kd.slice 5 (Kd.int .u8)) (DSlice (DInt .u8)) := rdr_slice Tryz.underlying22 (by kernel_rfl) (rdr_int Tryz.underlying5)
theorem rdr_i64s : Rdr (H := H) Tryz.prog 23 (Kd.slice 3 (Kd.int .i64)) (DSlice (DInt .i64)) := rdr_slice Tryz.underlying23 (by kernel_rfl) rdr_i64
theorem rdr_s : Rdr (H := H) Tryz.prog 9 Kd.string DStr := rdr_str Tryz.underlying9
theorem rdr_file : Rdr (H := H) Tryz.prog 41 fileK DFile :=
  rdr_iso (fun p : Plain => (p.name, p.data, p.bad)) (fun x => ⟨x.1, x.2.1, x.2.2⟩) (fun _ => rfl)
    (rdr_struct Tryz.underlying41 (by kernel_rfl) (flds_cons rfl (by kernel_rfl) rdr_s rfl (flds_cons rfl (by kernel_rfl) rdr_u8s rfl (flds_one rfl (by kernel_rfl) rdr_i64s))))
theorem rdr_img : Rdr (H := H) Tryz.prog 36 (Kd.slice 41 fileK) DImg :=
  rdr_struct Tryz.underlying36 (by kernel_rfl) (flds_one rfl (by kernel_rfl) (rdr_slice Tryz.underlying34 (by kernel_rfl) rdr_file))
theorem rdr_fail : Rdr (H := H) Tryz.prog 75 failK DFail := rdr_struct Tryz.underlying75 (by kernel_rfl) (flds_cons rfl (by kernel_rfl) rdr_i64 rfl (flds_one rfl (by kernel_rfl) rdr_i64))
theorem rdr_fates : Rdr (H := H) Tryz.prog 39 fatesK DFates := rdr_struct Tryz.underlying39 (by kernel_rfl) (flds_cons rfl (by kernel_rfl) rdr_i64s rfl (flds_one rfl (by kernel_rfl) rdr_i64))
theorem rdr_op : Rdr (H := H) Tryz.prog 55 opK DOp :=
  rdr_iso (fun o : OpS => (o.kind, o.name, o.to_, o.data, o.n, o.fails, o.cut, o.fs, o.fn)) (fun x => ⟨x.1, x.2.1, x.2.2.1, x.2.2.2.1, x.2.2.2.2.1, x.2.2.2.2.2.1, x.2.2.2.2.2.2.1, x.2.2.2.2.2.2.2.1, x.2.2.2.2.2.2.2.2⟩) (fun _ => rfl)
    (rdr_struct Tryz.underlying55 (by kernel_rfl) (flds_cons rfl (by kernel_rfl) rdr_i64 rfl (flds_cons rfl (by kernel_rfl) rdr_s rfl (flds_cons rfl (by kernel_rfl) rdr_s rfl (flds_cons rfl (by kernel_rfl) rdr_u8s rfl (flds_cons rfl (by kernel_rfl) rdr_i64 rfl
      (flds_cons rfl (by kernel_rfl) (rdr_slice Tryz.underlying53 (by kernel_rfl) rdr_fail) rfl (flds_cons rfl (by kernel_rfl) rdr_i64 rfl (flds_one rfl (by kernel_rfl) rdr_fates)))))))))
theorem bytes_u8 : Tryz.prog.bytesOf 5 = 1 := by kernel_rfl
theorem bytes_int : Tryz.prog.bytesOf 3 = 8 := by kernel_rfl
theorem bytes_fail : Tryz.prog.bytesOf 75 = 16 := by kernel_rfl
theorem bytes_file : Tryz.prog.bytesOf 41 = 64 := by kernel_rfl
theorem bytes_op : Tryz.prog.bytesOf 55 = 136 := by kernel_rfl
theorem reach_eq : reachBytes = 140737488351232 := by decide
set_option maxRecDepth 100000 in
/-- An image's file, as its datum has it. -/
theorem file_ok {p : Plain} {d : DataW H} (h : DFile p d) (hf : Fits 41 d) : (∀ x, x ∈ p.data → 0 ≤ x ∧ x < 256) ∧ p.data.length ≤ 140737488355328 ∧ p.name.size ≤ 9223372036854775807 := by
  obtain ⟨ds, rfl, d0, r0, rfl, h0, d1, r1, rfl, h1, d2, rfl, h2⟩ := h
  have f1 : Fits 22 d1 := fits_struct hf Tryz.underlying41 1 22 d1 rfl rfl
  have l1 := slice_len h1 f1 Tryz.underlying22
  rw [bytes_u8, reach_eq] at l1
  exact ⟨u8_wf h1, by simp only [] at l1; omega, by have := h0.2; rw [maxLen_eq] at this; exact this⟩
set_option maxRecDepth 100000 in
theorem fates_ok {fs : List Int} {fn : Int} {d : DataW H} (h : DFates (fs, fn) d) (hf : Fits 39 d) : fs.length ≤ 4611686018427387904 ∧ -9223372036854775808 ≤ fn ∧ fn ≤ 9223372036854775807 := by
  obtain ⟨ds, rfl, d0, r0, rfl, h0, d1, rfl, h1⟩ := h
  have f0 : Fits 23 d0 := fits_struct hf Tryz.underlying39 0 23 d0 rfl rfl
  have l0 := slice_len h0 f0 Tryz.underlying23
  rw [bytes_int, reach_eq] at l0
  exact ⟨by simp only [] at l0; omega, i64_wf h1.2⟩
set_option maxRecDepth 100000 in
theorem op_ok {o : OpS} {d : DataW H} (h : DOp o d) (hf : Fits 55 d) : OpOk o ∧ o.data.length ≤ 140737488355328 := by
  obtain ⟨ds, rfl, d0, r0, rfl, h0, d1, r1, rfl, h1, d2, r2, rfl, h2, d3, r3, rfl, h3, d4, r4, rfl, h4, d5, r5, rfl, h5, d6, r6, rfl, h6, d7, rfl, h7⟩ := h
  have f3 : Fits 22 d3 := fits_struct hf Tryz.underlying55 3 22 d3 rfl rfl
  have f5 : Fits 53 d5 := fits_struct hf Tryz.underlying55 5 53 d5 rfl rfl
  have f7 : Fits 39 d7 := fits_struct hf Tryz.underlying55 7 39 d7 rfl rfl
  have l3 := slice_len h3 f3 Tryz.underlying22
  have l5 := slice_len h5 f5 Tryz.underlying53
  rw [bytes_u8, reach_eq] at l3
  rw [bytes_fail, reach_eq] at l5
  have e7 := fates_ok h7 f7
  have mx := maxLen_eq
  exact ⟨⟨by have := h1.2; rw [mx] at this; exact this, by have := h2.2; rw [mx] at this; exact this, u8_wf h3, i64_wf h4.2, by simp only [] at l5; omega, e7.1⟩, by simp only [] at l3; omega⟩
end
section
variable {H : Type} {enc : TypeId × Value → H} {w : World} {base : Nat} {spare : Nat → Bool} {held : Bool} {v : Value} {x : DataW H} {ps : List MemPlace} {r : Reach} {b0 : Nat}
set_option maxRecDepth 100000 in
theorem img_arg (hv : Value.okWide Tryz.prog w r b0 36 v) (h : DataW.Trod enc Tryz.prog w base spare held 36 v x ps) (hf : Fits 36 x) :
    ∃ l, ImgRd w v l ∧ l.length ≤ 4398046511104 ∧ (∀ p, p ∈ l → (∀ x, x ∈ p.data → 0 ≤ x ∧ x < 256) ∧ p.data.length ≤ 140737488355328 ∧ p.name.size ≤ 9223372036854775807) := by
  obtain ⟨cs, l, rfl, ⟨A, c, e, hlc, hC⟩, ds, rfl, d, rfl, hd⟩ := open_st rdr_img Tryz.underlying36 hv h
  have e2 : cs = #[.slice A l.length c] := Array.toList_inj.1 e
  subst e2
  have fd : Fits 34 d := fits_struct hf Tryz.underlying36 0 34 d rfl rfl
  have l1 := slice_len hd fd Tryz.underlying34
  rw [bytes_file, reach_eq] at l1
  refine ⟨l, ⟨A, c, rfl, hlc, hC⟩, by omega, fun p hp => ?_⟩
  obtain ⟨dx, h1, h2⟩ := slice_elem hd fd Tryz.underlying34 hp
  exact file_ok h1 h2
set_option maxRecDepth 100000 in
theorem ops_arg (hv : Value.okWide Tryz.prog w r b0 43 v) (h : DataW.Trod enc Tryz.prog w base spare held 43 v x ps) (hf : Fits 43 x) :
    ∃ A c os, v = .slice A (List.length os) c ∧ os.length ≤ c ∧ opK.C w A os.length os ∧ (∀ o, o ∈ os → OpOk o ∧ o.data.length ≤ 140737488355328) := by
  obtain ⟨A, c, os, rfl, hlc, hC, hd⟩ := open_sl (rdr_slice Tryz.underlying43 (by kernel_rfl) rdr_op) Tryz.underlying43 hv h
  refine ⟨A, c, os, rfl, hlc, hC, fun o ho => ?_⟩
  obtain ⟨dx, h1, h2⟩ := slice_elem hd hf Tryz.underlying43 ho
  exact op_ok h1 h2
set_option maxRecDepth 100000 in
theorem op_arg (hv : Value.okWide Tryz.prog w r b0 55 v) (h : DataW.Trod enc Tryz.prog w base spare held 55 v x ps) (hf : Fits 55 x) :
    ∃ o, OpIn w o v ∧ OpOk o ∧ o.data.length ≤ 140737488355328 := by
  obtain ⟨cs, o, rfl, hK, hd⟩ := open_st rdr_op Tryz.underlying55 hv h
  obtain ⟨v, e, hin, _⟩ := opK_in hK
  have e2 : v = cs := Array.toList_inj.1 e
  subst e2
  exact ⟨o, hin, op_ok hd hf⟩
set_option maxRecDepth 100000 in
theorem fates_arg (hv : Value.okWide Tryz.prog w r b0 39 v) (h : DataW.Trod enc Tryz.prog w base spare held 39 v x ps) (hf : Fits 39 x) :
    ∃ A c fs fn, v = .agg #[.slice A (List.length fs) c, .int .i64 fn] ∧ fs.length ≤ c ∧ (∀ j (hj : j < fs.length), ∃ ad, A = some ad ∧ w.cell? (ad.add j) = some (.int .i64 fs[j])) ∧ fs.length ≤ 4611686018427387904 ∧ -9223372036854775808 ≤ fn ∧ fn ≤ 9223372036854775807 := by
  obtain ⟨cs, ⟨fs, fn⟩, rfl, ⟨c0, c1, e, ⟨A, c, e0, hlc, hC⟩, h1⟩, hd⟩ := open_st rdr_fates Tryz.underlying39 hv h
  have h1 : c1 = [.int .i64 fn] := h1
  subst h1
  simp only [] at e0
  subst e0
  have e2 : cs = #[.slice A fs.length c, .int .i64 fn] := Array.toList_inj.1 e
  subst e2
  exact ⟨A, c, fs, fn, rfl, hlc, C_int hC, fates_ok hd hf⟩
end
end Go.Proofs.YtglhedahannjiaaGreatDoor.Dw
