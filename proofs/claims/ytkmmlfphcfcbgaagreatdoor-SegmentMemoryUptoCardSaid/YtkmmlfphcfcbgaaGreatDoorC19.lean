/- A part of the proof of segmentMemoryUpto_holds: DeRename, DeSync, Du, DeAppend, Ea, Eb, DeSyncNames, Eq, Fa. No condition. -/
import Derived.Test.YtkmmlfphcfcbgaaGreatDoorC18

/- Rename, whole (printed by wip/tools/wrap.py). -/
namespace Go.Proofs.YtkmmlfphcfcbgaaGreatDoor.Dw
open Go.RowKit Go.ChangeMaps Go.Proofs.YtkmmlfphcfcbgaaGreatDoor.Mp Go.Proofs.YtkmmlfphcfcbgaaGreatDoor.Dm Go.Proofs.YtkmmlfphcfcbgaaGreatDoor.Da
set_option linter.unusedVariables false
set_option linter.unusedSimpArgs false
set_option linter.unusedSectionVars false
end Go.Proofs.YtkmmlfphcfcbgaaGreatDoor.Dw

/- Sync, whole (printed by wip/tools/wrap.py). -/
namespace Go.Proofs.YtkmmlfphcfcbgaaGreatDoor.Dw
open Go.RowKit Go.ChangeMaps Go.Proofs.YtkmmlfphcfcbgaaGreatDoor.Mp Go.Proofs.YtkmmlfphcfcbgaaGreatDoor.Dm Go.Proofs.YtkmmlfphcfcbgaaGreatDoor.Da
set_option linter.unusedVariables false
set_option linter.unusedSimpArgs false
set_option linter.unusedSectionVars false
set_option maxHeartbeats 1000000 in
set_option maxRecDepth 100000 in
theorem sync_calls {B : Nat} {w : World} {b : Nat} {A : Adr} {lab : Nat → Option Lb} {D : Disk} {eb : Nat → Addr} {L : List Err} (h : DiskAt B w b A lab D) (he : ErrsAt B w eb L) (hw : WF D) (hb : Bnd D) (n : Name) :
    Calls Tryz.prog 63 #[dptr b, .string n] w fun e W' => e = .returned (errV eb (D.sync n).1) ∧ Ext B b lab w W' (D.sync n).2 := by
  have hlt : ∀ k p, lab k = some p → k < w.heap.size := fun k p hl => (h.base k p hl).2
  have l0 : ∀ i, lab (w.heap.size + i) = none := by
    intro i
    rcases hc : lab (w.heap.size + i) with _ | p
    · rfl
    · have := hlt _ p hc; omega
  have key : ∀ W0, W0 = ((w.alloc (.cells #[dptr b] 29)).alloc (.cells #[.string n] 9)) →
      Calls Tryz.prog 70 #[dptr b, .func (.func 120) #[] #[.pointer (some ⟨w.heap.size, 0, none⟩), .pointer (some ⟨w.heap.size + 1, 0, none⟩)]] W0 fun e W' => e = .returned (errV eb (D.sync n).1) ∧ Ext B b lab w W' (D.sync n).2 := by
    intro W0 hW0
    have h0 : DiskAt B W0 b A lab D := by rw [hW0]; exact ((h.alloc _).alloc _)
    have he0 : ErrsAt B W0 eb L := by rw [hW0]; exact ((he.alloc _).alloc _)
    have f0 : Frm (Ft lab) w W0 := by rw [hW0]; exact (((Frm.refl _ _).alloc _).alloc _)
    have c0 : Cap W0 lab w.heap.size (dptr b) := ⟨by rw [hW0]; exact (cell_alloc (cell_of blk_alloc rfl)), l0 0⟩
    have c1 : Cap W0 lab (w.heap.size + 1) (.string n) := ⟨by
      rw [hW0, show w.heap.size + 1 = (w.alloc (.cells #[dptr b] 29)).heap.size by simp only [World.size_alloc]]
      exact (cell_of blk_alloc rfl), l0 1⟩
    have run := run_calls h0 he0 hb.count hb.since 120 #[.pointer (some ⟨w.heap.size, 0, none⟩), .pointer (some ⟨w.heap.size + 1, 0, none⟩)] (fun W => by kernel_rfl) (D.gone n) false 121
      #[.pointer (some ⟨w.heap.size, 0, none⟩), .pointer (some ⟨w.heap.size + 1, 0, none⟩)] (fun W => by kernel_rfl) (.nilFunc) (Disk.onFile n FileS.sync) (none)
      (by
        intro W hx
        obtain ⟨A1, lab1, g1, g2, g3⟩ := hx
        refine (sync1 g1 (he0.frm g2 (Ft.low h0)) hw.tick n _ _ (c0.frm g2) (c1.frm g2)).mono ?_
        rintro e W' ⟨rfl, hf⟩
        exact ⟨rfl, Ext.keep ⟨A1, lab1, g1, g2, g3⟩ hf (fun _ _ h => h)⟩)
      (by
        intro h00 W D1 hD1 hx
        obtain ⟨A1, lab1, g1, g2, g3⟩ := hx
        have hw1 : WF D1 := by
          rcases hD1 with rfl | ⟨_, rfl⟩
          · exact hw.tick
          · exact hw.tick.dark
        have hb1 : D1.files.length < 4611686018427387904 ∧ D1.changes.length < 1099511627776 := by rcases hD1 with rfl | ⟨_, rfl⟩ <;> exact ⟨hb.files, hb.changes⟩
        have hex : (find D1.now n).isSome = true := by
          have e : D1.now = D.now := by rcases hD1 with rfl | ⟨_, rfl⟩ <;> rfl
          rw [e]; exact gone_zero h00
        have hlen : ∀ f, f ∈ D1.files → f.seen.length ≤ 4398046511104 := by
          have e : D1.files = D.files := by rcases hD1 with rfl | ⟨_, rfl⟩ <;> rfl
          rw [e]; exact hb.len
        refine (sync11 g1 hw1 n hex (fun f hf => Nat.le_trans (hlen f hf) (by omega)) _ _ (c0.ext (B := B) (b := b) g2 g3) (c1.ext (B := B) (b := b) g2 g3)).mono ?_
        rintro e W' ⟨rfl, hx⟩
        exact ⟨rfl, Ext.trans g2 g3 hx⟩)
      (.inl ⟨rfl, rfl⟩)
    refine run.mono ?_
    rintro e W' ⟨rfl, hx⟩
    exact ⟨rfl, Ext.trans f0 (fun _ _ h => h) hx⟩
  unfold dptr at key ⊢
  have KEY := Lib.hid key
  clear key l0
  go_enter Tryz.func63, Tryz.ntmps63
  go_wp2_with fail
  refine (KEY.out _ rfl).mono ?_
  rintro e W' ⟨rfl, hx⟩
  generalize hev : errV eb (D.sync n).1 = ev
  go_wp2
  go_ret
  rw [hev]
  exact ⟨rfl, hx⟩
end Go.Proofs.YtkmmlfphcfcbgaaGreatDoor.Dw

/- Walks: Append's closures. -/
namespace Go.Proofs.YtkmmlfphcfcbgaaGreatDoor.Dw
open Go.RowKit Go.ChangeMaps Go.Proofs.YtkmmlfphcfcbgaaGreatDoor.Mp Go.Proofs.YtkmmlfphcfcbgaaGreatDoor.Dm Go.Proofs.YtkmmlfphcfcbgaaGreatDoor.Da
set_option linter.unusedVariables false
set_option linter.unusedSimpArgs false
set_option linter.unusedSectionVars false
/-- Bytes that are none of the disk's. -/
def Given (w : World) (lab : Nat → Option Lb) (v : Value) (xs : List Int) : Prop := FromAt w v xs ∧ (xs ≠ [] → ∀ g o n c, v = .slice (some ⟨g, o, none⟩) n c → g < w.heap.size ∧ lab g = none)
theorem FromAt.empty {w w1 : World} {v : Value} (h : FromAt w v []) : FromAt w1 v [] := by
  rcases h with h | ⟨a, off, c, rfl, hc⟩ | h
  · exact .inl h
  · exact .inr (.inr ⟨_, _, rfl, rfl⟩)
  · exact .inr (.inr h)
theorem FromAt.frm {w w1 : World} {F : Nat → Prop} {v : Value} {xs : List Int} (h : FromAt w v xs) (hF : ∀ g o n c, v = .slice (some ⟨g, o, none⟩) n c → ¬ F g) (hf : Frm F w w1) : FromAt w1 v xs := by
  rcases h with h | ⟨a, off, c, rfl, hc⟩ | h
  · exact .inl h
  rotate_left
  · exact .inr (.inr h)
  · refine .inr (.inl ⟨a, off, c, rfl, fun j u hu => ?_⟩)
    have := hc j u hu
    rw [← this]
    exact hf.cell (World.block_lt_of_cell? w _ this) (hF a off _ c rfl)
theorem Given.frm {w w1 : World} {lab : Nat → Option Lb} {v : Value} {xs : List Int} (h : Given w lab v xs) (hf : Frm (Ft lab) w w1) : FromAt w1 v xs := by
  by_cases hx : xs = []
  · subst hx; exact FromAt.empty h.1
  · exact h.1.frm (fun g o n c e => by unfold Ft; rw [(h.2 hx g o n c e).2]; simp) hf
theorem Given.ext {w w1 : World} {lab lab1 : Nat → Option Lb} {v : Value} {xs : List Int} (h : Given w lab v xs) (hf : Frm (Ft lab) w w1) (hl : ∀ k, k < w.heap.size → Ft lab1 k → Ft lab k) : Given w1 lab1 v xs := by
  refine ⟨h.frm hf, fun hx g o n c e => ?_⟩
  obtain ⟨h1, h2⟩ := h.2 hx g o n c e
  refine ⟨Nat.lt_of_lt_of_le h1 hf.size, ?_⟩
  rcases hc : lab1 g with _ | p
  · rfl
  · have := hl g h1 (by unfold Ft; rw [hc]; rfl)
    unfold Ft at this
    rw [h2] at this
    cases this
set_option maxRecDepth 100000 in
theorem append1 {B : Nat} {W : World} {b : Nat} {A : Adr} {lab : Nat → Option Lb} {D : Disk} {eb : Nat → Addr} {L : List Err} (h : DiskAt B W b A lab D) (he : ErrsAt B W eb L) (hw : WF D) (n : Name) (cd cn cv : Nat)
    (h1 : W.cell? ⟨cd, 0, none⟩ = some (dptr b)) (h2 : W.cell? ⟨cn, 0, none⟩ = some (.string n)) :
    Calls Tryz.prog 97 #[.pointer (some ⟨cd, 0, none⟩), .pointer (some ⟨cn, 0, none⟩), .pointer (some ⟨cv, 0, none⟩)] W fun e W' =>
      e = .returned (.agg #[errV eb (D.gone n), .func (.func 99) #[] #[.pointer (some ⟨cd, 0, none⟩), .pointer (some ⟨cn, 0, none⟩), .pointer (some ⟨cv, 0, none⟩)], .bool true, .func (.func 101) #[] #[.pointer (some ⟨cd, 0, none⟩), .pointer (some ⟨cn, 0, none⟩), .pointer (some ⟨cv, 0, none⟩)]]) ∧ Frm (fun _ => False) W W' := by
  have n1 := World.block_lt_of_cell? W _ h1
  have n2 := World.block_lt_of_cell? W _ h2
  have key : ∀ o, Calls Tryz.prog 98 #[dptr b, .string n] (W.alloc o) fun e w' => e = .returned (errV eb (D.gone n)) ∧ w' = W.alloc o :=
    fun o => gone_calls (h.alloc o) (he.alloc o) hw.nowN n
  unfold dptr at h1 key
  have KEY := Lib.hid key
  clear key
  go_enter Tryz.func97, Tryz.ntmps97
  go_wp2_with fail
  refine (KEY.out _).mono ?_
  rintro e w' ⟨rfl, rfl⟩
  by_cases h0 : D.gone n = 0
  · rw [h0, errV_zero]
    go_wp2
    exact bodyPost_ret (v := .agg #[.nilIface, .func (.func 99) #[] #[.pointer (some ⟨cd, 0, none⟩), .pointer (some ⟨cn, 0, none⟩), .pointer (some ⟨cv, 0, none⟩)], .bool true, .func (.func 101) #[] #[.pointer (some ⟨cd, 0, none⟩), .pointer (some ⟨cn, 0, none⟩), .pointer (some ⟨cv, 0, none⟩)]]) (by simp [results, Tryz.results97, go_sem]) rfl ⟨by rw [h0, errV_zero], (by repeat (first | (with_reducible assumption) | (with_reducible exact Frm.refl _ _) | (with_reducible apply Frm.drewN) | (with_reducible apply Frm.drew) | (with_reducible apply Frm.alloc) | (with_reducible refine Frm.setCell ?_ _ _ (fun h => absurd h (by first | (simp; done) | (simp; omega))))))⟩
  · rw [errV_pos eb (D.gone n) h0]
    go_wp2
    exact bodyPost_ret (v := .agg #[.iface 311 (.pointer (some (eb (D.gone n)))), .func (.func 99) #[] #[.pointer (some ⟨cd, 0, none⟩), .pointer (some ⟨cn, 0, none⟩), .pointer (some ⟨cv, 0, none⟩)], .bool true, .func (.func 101) #[] #[.pointer (some ⟨cd, 0, none⟩), .pointer (some ⟨cn, 0, none⟩), .pointer (some ⟨cv, 0, none⟩)]]) (by simp [results, Tryz.results97, go_sem]) rfl ⟨by rw [errV_pos eb (D.gone n) h0], (by repeat (first | (with_reducible assumption) | (with_reducible exact Frm.refl _ _) | (with_reducible apply Frm.drewN) | (with_reducible apply Frm.drew) | (with_reducible apply Frm.alloc) | (with_reducible refine Frm.setCell ?_ _ _ (fun h => absurd h (by first | (simp; done) | (simp; omega))))))⟩
set_option maxHeartbeats 1000000 in
set_option maxRecDepth 100000 in
theorem append11 {B : Nat} {W : World} {b : Nat} {A : Adr} {lab : Nat → Option Lb} {D : Disk} (h : DiskAt B W b A lab D) (hw : WF D) (n : Name) (hex : (find D.now n).isSome = true) (v : Value) (data : List Int) (hv : Given W lab v data) (hlen : ∀ f, f ∈ D.files → f.seen.length ≤ 4398046511104) (hdl : data.length ≤ 4398046511104)
    (cd cn cv : Nat) (h1 : Cap W lab cd (dptr b)) (h2 : Cap W lab cn (.string n)) (h3 : Cap W lab cv v) :
    Calls Tryz.prog 99 #[.pointer (some ⟨cd, 0, none⟩), .pointer (some ⟨cn, 0, none⟩), .pointer (some ⟨cv, 0, none⟩)] W fun e W' => e = .returned (.tuple #[]) ∧ Ext B b lab W W' (D.onFile n (FileS.add data)) := by
  have q1 := h1.1
  have q2 := h2.1
  have q3 := h3.1
  obtain ⟨i, hi⟩ := Option.isSome_iff_exists.1 hex
  obtain ⟨f, hf⟩ := WF.file hw hi
  have hd : D.onFile n (FileS.add data) = D.modify i (FileS.add data) := by simp [Disk.onFile, hi]
  rw [hd]
  have r0 : W.cell? ⟨b, 0, none⟩ = some (.map (some A.nm)) := main_cell h.blk rfl
  obtain ⟨l', hp, hm⟩ := h.names
  have hl := look_names hp hw.nowN A n
  rw [hi] at hl
  have lk : ∀ nq, (Instr.lookup 99 (.map (some A.nm)) (.string n) false).run Tryz.prog (W.drewN nq) = .ok (.pointer (some ⟨(A.fa i).fb, 0, none⟩)) (W.drewN nq) := by
    intro nq
    have hm' : MapAt Value.string (W.drewN nq) A.nm (l'.map fun p => (p.1, fptr A p.2)) := hm.of_block rfl
    have := hm'.lookup kS Tryz.underlying99 (zP _) n false
    rw [this, hl]; rfl
  have hlf : f.seen.length ≤ 4398046511104 := hlen f (List.mem_of_getElem? hf)
  have key : ∀ nq, Calls Tryz.prog 100 #[.pointer (some ⟨(A.fa i).fb, 0, none⟩), v] (W.drewN nq) fun e w' => e = .returned (.tuple #[]) ∧ Ext B b lab W w' (D.modify i (FileS.add data)) := by
    intro nq
    have h' : DiskAt B (W.drewN nq) b A lab D := h.same (fun _ _ _ => rfl) (Nat.le_refl _)
    refine (add_calls h' hf v data (hv.frm ((Frm.refl _ _).drewN _)) (by omega)).mono ?_
    rintro e w' ⟨rfl, hx⟩
    exact ⟨rfl, Ext.trans ((Frm.refl _ _).drewN _) (fun _ _ h => h) hx⟩
  obtain ⟨pv, cc, rfl⟩ := hv.1.form
  have KEY1 : Hid (Calls Tryz.prog 100 #[.pointer (some ⟨(A.fa i).fb, 0, none⟩), .slice pv data.length cc] W.drew fun e w' => e = .returned (.tuple #[]) ∧ Ext B b lab W w' (D.modify i (FileS.add data))) := key 1
  have lkd : (Instr.lookup 99 (.map (some A.nm)) (.string n) false).run Tryz.prog W.drew = .ok (.pointer (some ⟨(A.fa i).fb, 0, none⟩)) W.drew := lk 1
  clear hl hp hd hi hex hlen hm key hv h1 h2 h3
  unfold dptr at q1
  clear h hf
  go_enter Tryz.func99, Tryz.ntmps99
  go_wp2
  go_still_tail 7, (by kernel_rfl)
  change wpList _ _ _ _ _ W.drew
  go_wp2_with (first | (go_at_call 100; refine KEY1.out.mono ?_; rintro e w' ⟨rfl, hx⟩))
  go_end0
  exact ⟨rfl, hx⟩
theorem FromAt.take {w : World} {p : Option Addr} {c : Nat} {xs : List Int} (h : FromAt w (.slice p xs.length c) xs) (k : Nat) (hk : k ≤ xs.length) : FromAt w (.slice p k c) (xs.take k) := by
  rcases h with ⟨h1, h2⟩ | ⟨a, off, c', h1, hc⟩ | ⟨ad, c', h1, h2⟩
  rotate_left 2
  · subst h2
    have hk0 : k = 0 := by simpa using hk
    subst hk0
    simp only [Value.slice.injEq] at h1
    obtain ⟨rfl, _, rfl⟩ := h1
    exact .inr (.inr ⟨p, c, rfl, rfl⟩)
  · subst h2
    have hk0 : k = 0 := by simpa using hk
    subst hk0
    simp only [Value.slice.injEq] at h1
    obtain ⟨rfl, _, rfl⟩ := h1
    exact .inl ⟨rfl, rfl⟩
  · simp only [Value.slice.injEq] at h1
    obtain ⟨rfl, _, rfl⟩ := h1
    refine .inr (.inl ⟨a, off, c, ?_, fun j u hu => hc j u ?_⟩)
    · rw [List.length_take, Nat.min_eq_left hk]
    · unfold u8s at hu ⊢
      rw [List.map_take] at hu
      have hj := (List.getElem?_eq_some_iff.1 hu).1
      rw [List.length_take] at hj
      rw [← hu, List.getElem?_take_of_lt (by omega)]
set_option maxHeartbeats 1000000 in
set_option maxRecDepth 100000 in
theorem append12 {B : Nat} {W : World} {b : Nat} {A : Adr} {lab : Nat → Option Lb} {D : Disk} (h : DiskAt B W b A lab D) (hw : WF D) (n : Name) (hex : (find D.now n).isSome = true) (v : Value) (data : List Int) (hv : Given W lab v data) (hcap : ∀ p k c, v = .slice p k c → k ≤ c) (hlen : ∀ f, f ∈ D.files → f.seen.length ≤ 4398046511104) (hdl : data.length ≤ 4398046511104)
    (k : Int) (cd cn cv : Nat) (h1 : Cap W lab cd (dptr b)) (h2 : Cap W lab cn (.string n)) (h3 : Cap W lab cv v) :
    Calls Tryz.prog 101 #[.int .i64 k, .pointer (some ⟨cd, 0, none⟩), .pointer (some ⟨cn, 0, none⟩), .pointer (some ⟨cv, 0, none⟩)] W fun e W' => e = .returned (.tuple #[]) ∧ Ext B b lab W W' (D.onFile n (FileS.add (data.take k.toNat))) := by
  have q1 := h1.1
  have q2 := h2.1
  have q3 := h3.1
  obtain ⟨i, hi⟩ := Option.isSome_iff_exists.1 hex
  obtain ⟨f, hf⟩ := WF.file hw hi
  obtain ⟨j, hj, hj2⟩ : ∃ j, j ≤ data.length ∧ data.take k.toNat = data.take j ∧ max 0 (min k (data.length : Int)) = (j : Int) := by
    rcases Nat.lt_or_ge k.toNat data.length with h | h
    · exact ⟨k.toNat, by omega, rfl, by omega⟩
    · exact ⟨data.length, Nat.le_refl _, by rw [List.take_of_length_le h, List.take_length], by omega⟩
  have hd : D.onFile n (FileS.add (data.take k.toNat)) = D.modify i (FileS.add (data.take j)) := by simp [Disk.onFile, hi, hj2.1]
  rw [hd]
  have r0 : W.cell? ⟨b, 0, none⟩ = some (.map (some A.nm)) := main_cell h.blk rfl
  obtain ⟨l', hp, hm⟩ := h.names
  have hl := look_names hp hw.nowN A n
  rw [hi] at hl
  have lkd : (Instr.lookup 99 (.map (some A.nm)) (.string n) false).run Tryz.prog W.drew = .ok (.pointer (some ⟨(A.fa i).fb, 0, none⟩)) W.drew := by
    have hm' : MapAt Value.string W.drew A.nm (l'.map fun p => (p.1, fptr A p.2)) := hm.of_block rfl
    have := hm'.lookup kS Tryz.underlying99 (zP _) n false
    rw [this, hl]; rfl
  have hlf : f.seen.length ≤ 4398046511104 := hlen f (List.mem_of_getElem? hf)
  obtain ⟨pv, cc, rfl⟩ := hv.1.form
  have key : Calls Tryz.prog 100 #[.pointer (some ⟨(A.fa i).fb, 0, none⟩), .slice pv j cc] W.drew fun e w' => e = .returned (.tuple #[]) ∧ Ext B b lab W w' (D.modify i (FileS.add (data.take j))) := by
    have h' : DiskAt B W.drew b A lab D := h.same (fun _ _ _ => rfl) (Nat.le_refl _)
    refine (add_calls h' hf _ (data.take j) (FromAt.take (hv.frm (Frm.refl _ _).drew) j hj) (by rw [List.length_take]; omega)).mono ?_
    rintro e w' ⟨rfl, hx⟩
    exact ⟨rfl, Ext.trans (Frm.refl _ _).drew (fun _ _ h => h) hx⟩
  have hcc := hcap _ _ _ rfl
  obtain ⟨_, hmm⟩ := hj2
  have KEY := Lib.hid key
  have HV : Hid (FromAt W (.slice pv data.length cc) data) := hv.1
  clear hl hp hd hi hex hlen hm key hv h1 h2 h3 hcap
  unfold dptr at q1
  clear h hf
  have hjc : j ≤ cc := Nat.le_trans hj hcc
  have hshape : (pv = none ∧ data.length = 0 ∧ j = 0) ∨ (∃ a off, pv = some ⟨a, off, none⟩) ∨ ∃ ad, pv = some ad ∧ data.length = 0 ∧ j = 0 := by
    rcases HV.out with ⟨e1, e2⟩ | ⟨a, off, c, e1, _⟩ | ⟨ad, c, e1, e2⟩
    · simp only [Value.slice.injEq] at e1
      subst e2
      exact .inl ⟨e1.1, rfl, by simpa using hj⟩
    · simp only [Value.slice.injEq] at e1
      exact .inr (.inl ⟨a, off, e1.1⟩)
    · simp only [Value.slice.injEq] at e1
      subst e2
      cases ad with
      | none => exact .inl ⟨e1.1, rfl, by simpa using hj⟩
      | some ad => exact .inr (.inr ⟨ad, e1.1, rfl, by simpa using hj⟩)
  clear HV hcc
  rcases hshape with ⟨rfl, e2, rfl⟩ | ⟨a, off, rfl⟩ | ⟨ad, rfl, e2, rfl⟩
  · rw [e2] at q3 hmm
    have hmm0 : max 0 (min k ((0 : Nat) : Int)) = 0 := hmm
    simp only [Int.natCast_zero] at hmm0
    clear hmm
    go_enter Tryz.func101, Tryz.ntmps101
    go_wp2_with fail
    go_still_tail 13, (by kernel_rfl)
    change wpList _ _ _ _ _ W.drew
    go_wp2_with (first | (go_at_call 100; refine KEY.out.mono ?_; rintro e w' ⟨rfl, hx⟩))
    go_end0
    exact ⟨rfl, hx⟩
  · go_enter Tryz.func101, Tryz.ntmps101
    go_wp2_with fail
    go_still_tail 13, (by kernel_rfl)
    change wpList _ _ _ _ _ W.drew
    go_wp2_with (first | (go_at_call 100; refine KEY.out.mono ?_; rintro e w' ⟨rfl, hx⟩))
    go_end0
    exact ⟨rfl, hx⟩
  · rw [e2] at q3 hmm
    have hmm0 : max 0 (min k ((0 : Nat) : Int)) = 0 := hmm
    simp only [Int.natCast_zero] at hmm0
    clear hmm
    go_enter Tryz.func101, Tryz.ntmps101
    go_wp2_with fail
    go_still_tail 13, (by kernel_rfl)
    change wpList _ _ _ _ _ W.drew
    go_wp2_with (first | (go_at_call 100; refine KEY.out.mono ?_; rintro e w' ⟨rfl, hx⟩))
    go_end0
    exact ⟨rfl, hx⟩
end Go.Proofs.YtkmmlfphcfcbgaaGreatDoor.Dw

/- Append, whole (printed by wip/tools/wrap.py). -/
namespace Go.Proofs.YtkmmlfphcfcbgaaGreatDoor.Dw
open Go.RowKit Go.ChangeMaps Go.Proofs.YtkmmlfphcfcbgaaGreatDoor.Mp Go.Proofs.YtkmmlfphcfcbgaaGreatDoor.Dm Go.Proofs.YtkmmlfphcfcbgaaGreatDoor.Da
set_option linter.unusedVariables false
set_option linter.unusedSimpArgs false
set_option linter.unusedSectionVars false
set_option maxHeartbeats 1000000 in
set_option maxRecDepth 100000 in
theorem append_calls {B : Nat} {w : World} {b : Nat} {A : Adr} {lab : Nat → Option Lb} {D : Disk} {eb : Nat → Addr} {L : List Err} (h : DiskAt B w b A lab D) (he : ErrsAt B w eb L) (hw : WF D) (hb : Bnd D) (n : Name) (pv : Option Addr) (cc : Nat) (data : List Int) (hv : Given w lab (.slice pv data.length cc) data) (hcc : data.length ≤ cc) (hdl : data.length ≤ 4398046511104) :
    Calls Tryz.prog 49 #[dptr b, .string n, .slice pv data.length cc] w fun e W' => e = .returned (errV eb (D.append n data).1) ∧ Ext B b lab w W' (D.append n data).2 := by
  have hlt : ∀ k p, lab k = some p → k < w.heap.size := fun k p hl => (h.base k p hl).2
  have l0 : ∀ i, lab (w.heap.size + i) = none := by
    intro i
    rcases hc : lab (w.heap.size + i) with _ | p
    · rfl
    · have := hlt _ p hc; omega
  have key : ∀ W0, W0 = (((w.alloc (.cells #[dptr b] 29)).alloc (.cells #[.string n] 9)).alloc (.cells #[.slice pv data.length cc] 36)) →
      Calls Tryz.prog 70 #[dptr b, .func (.func 97) #[] #[.pointer (some ⟨w.heap.size, 0, none⟩), .pointer (some ⟨w.heap.size + 1, 0, none⟩), .pointer (some ⟨w.heap.size + 1 + 1, 0, none⟩)]] W0 fun e W' => e = .returned (errV eb (D.append n data).1) ∧ Ext B b lab w W' (D.append n data).2 := by
    intro W0 hW0
    have h0 : DiskAt B W0 b A lab D := by rw [hW0]; exact (((h.alloc _).alloc _).alloc _)
    have he0 : ErrsAt B W0 eb L := by rw [hW0]; exact (((he.alloc _).alloc _).alloc _)
    have f0 : Frm (Ft lab) w W0 := by rw [hW0]; exact ((((Frm.refl _ _).alloc _).alloc _).alloc _)
    have hv0 : Given W0 lab (.slice pv data.length cc) data := hv.ext f0 (fun _ _ h => h)
    have c0 : Cap W0 lab w.heap.size (dptr b) := ⟨by rw [hW0]; exact (cell_alloc (cell_alloc (cell_of blk_alloc rfl))), l0 0⟩
    have c1 : Cap W0 lab (w.heap.size + 1) (.string n) := ⟨by
      rw [hW0, show w.heap.size + 1 = (w.alloc (.cells #[dptr b] 29)).heap.size by simp only [World.size_alloc]]
      exact (cell_alloc (cell_of blk_alloc rfl)), l0 1⟩
    have c2 : Cap W0 lab (w.heap.size + 1 + 1) (.slice pv data.length cc) := ⟨by
      rw [hW0, show w.heap.size + 1 + 1 = ((w.alloc (.cells #[dptr b] 29)).alloc (.cells #[.string n] 9)).heap.size by simp only [World.size_alloc]]
      exact (cell_of blk_alloc rfl), l0 2⟩
    have run := run_calls h0 he0 hb.count hb.since 97 #[.pointer (some ⟨w.heap.size, 0, none⟩), .pointer (some ⟨w.heap.size + 1, 0, none⟩), .pointer (some ⟨w.heap.size + 1 + 1, 0, none⟩)] (fun W => by kernel_rfl) (D.gone n) true 99
      #[.pointer (some ⟨w.heap.size, 0, none⟩), .pointer (some ⟨w.heap.size + 1, 0, none⟩), .pointer (some ⟨w.heap.size + 1 + 1, 0, none⟩)] (fun W => by kernel_rfl) (.func (.func 101) #[] #[.pointer (some ⟨w.heap.size, 0, none⟩), .pointer (some ⟨w.heap.size + 1, 0, none⟩), .pointer (some ⟨w.heap.size + 1 + 1, 0, none⟩)]) (Disk.onFile n (FileS.add data)) (some fun p => Disk.onFile n (FileS.add (data.take p.toNat)))
      (by
        intro W hx
        obtain ⟨A1, lab1, g1, g2, g3⟩ := hx
        refine (append1 g1 (he0.frm g2 (Ft.low h0)) hw.tick n _ _ _ (c0.frm g2) (c1.frm g2)).mono ?_
        rintro e W' ⟨rfl, hf⟩
        exact ⟨rfl, Ext.keep ⟨A1, lab1, g1, g2, g3⟩ hf (fun _ _ h => h)⟩)
      (by
        intro h00 W D1 hD1 hx
        obtain ⟨A1, lab1, g1, g2, g3⟩ := hx
        have hw1 : WF D1 := by
          rcases hD1 with rfl | ⟨_, rfl⟩
          · exact hw.tick
          · exact hw.tick.dark
        have hb1 : D1.files.length < 4611686018427387904 ∧ D1.changes.length < 1099511627776 := by rcases hD1 with rfl | ⟨_, rfl⟩ <;> exact ⟨hb.files, hb.changes⟩
        have hex : (find D1.now n).isSome = true := by
          have e : D1.now = D.now := by rcases hD1 with rfl | ⟨_, rfl⟩ <;> rfl
          rw [e]; exact gone_zero h00
        have hlen : ∀ f, f ∈ D1.files → f.seen.length ≤ 4398046511104 := by
          have e : D1.files = D.files := by rcases hD1 with rfl | ⟨_, rfl⟩ <;> rfl
          rw [e]; exact hb.len
        refine (append11 g1 hw1 n hex _ data (hv0.ext g2 g3) hlen hdl _ _ _ (c0.ext (B := B) (b := b) g2 g3) (c1.ext (B := B) (b := b) g2 g3) (c2.ext (B := B) (b := b) g2 g3)).mono ?_
        rintro e W' ⟨rfl, hx⟩
        exact ⟨rfl, Ext.trans g2 g3 hx⟩)
      (.inr ⟨101, #[.pointer (some ⟨w.heap.size, 0, none⟩), .pointer (some ⟨w.heap.size + 1, 0, none⟩), .pointer (some ⟨w.heap.size + 1 + 1, 0, none⟩)], _, rfl, rfl, fun _ W => by kernel_rfl, fun h00 m W hx => by
        obtain ⟨A1, lab1, g1, g2, g3⟩ := hx
        refine (append12 g1 hw.tick n (gone_zero (D := D) h00) _ data (hv0.ext g2 g3) (fun p k c e => by simp only [Value.slice.injEq] at e; omega) hb.len hdl m _ _ _ (c0.ext (B := B) (b := b) g2 g3) (c1.ext (B := B) (b := b) g2 g3) (c2.ext (B := B) (b := b) g2 g3)).mono ?_
        rintro e W' ⟨rfl, hx⟩
        exact ⟨rfl, Ext.trans g2 g3 hx⟩⟩)
    refine run.mono ?_
    rintro e W' ⟨rfl, hx⟩
    exact ⟨rfl, Ext.trans f0 (fun _ _ h => h) hx⟩
  unfold dptr at key ⊢
  have KEY := Lib.hid key
  clear key l0
  go_enter Tryz.func49, Tryz.ntmps49
  go_wp2_with fail
  refine (KEY.out _ rfl).mono ?_
  rintro e W' ⟨rfl, hx⟩
  generalize hev : errV eb (D.append n data).1 = ev
  go_wp2
  go_ret
  rw [hev]
  exact ⟨rfl, hx⟩
end Go.Proofs.YtkmmlfphcfcbgaaGreatDoor.Dw

/- Walks: New. -/
namespace Go.Proofs.YtkmmlfphcfcbgaaGreatDoor.Dw
open Go.RowKit Go.ChangeMaps Go.Proofs.YtkmmlfphcfcbgaaGreatDoor.Mp Go.Proofs.YtkmmlfphcfcbgaaGreatDoor.Dm Go.Proofs.YtkmmlfphcfcbgaaGreatDoor.Da
set_option linter.unusedVariables false
set_option linter.unusedSimpArgs false
set_option linter.unusedSectionVars false
theorem DiskAt.weaken {B B' : Nat} {w : World} {b : Nat} {A : Adr} {lab : Nat → Option Lb} {D : Disk} (h : DiskAt B w b A lab D) (hB : B' ≤ B) : DiskAt B' w b A lab D :=
  ⟨h.blk, h.lb, h.names, h.lnm, h.sure, h.lsm, h.waiting, h.fails, h.files, fun k p hl => ⟨Nat.le_trans hB (h.base k p hl).1, (h.base k p hl).2⟩⟩
def bornLab (s : Nat) : Nat → Option Lb := fun k => if k = s then some .names else if k = s + 1 then some .sure else if k = s + 2 then some .main else none
def bornAdr (s : Nat) : Adr := ⟨s, s + 1, .slice none 0 0, .slice none 0 0, fun _ => newFAdr 0⟩
def wBorn (w : World) : World := ((w.alloc (.map #[] 0)).alloc (.map #[] 0)).alloc (.cells #[.map (some w.heap.size), .map (some (w.heap.size + 1)), .slice none 0 0, .int .i64 0, .int .i64 0, .int .i64 0, .slice none 0 0, .int .i64 0, .bool false] 102)
theorem born (w : World) : DiskAt w.heap.size (wBorn w) (w.heap.size + 2) (bornAdr w.heap.size) (bornLab w.heap.size) Disk.new := by
  have me : ∀ {w' : World} {m : Nat}, w'.heap[m]? = some (.map #[] 0) → MapAt Value.string w' m ([] : List (Name × Value)) := fun hm => ⟨#[], 0, hm, ⟨by simp, by simp⟩, by simp⟩
  have e0 : (wBorn w).heap[w.heap.size]? = some (.map #[] 0) := by
    unfold wBorn
    rw [blk_alloc_lt (by simp only [World.size_alloc]; omega), blk_alloc_lt (by simp only [World.size_alloc]; omega)]
    exact blk_alloc
  have e1 : (wBorn w).heap[w.heap.size + 1]? = some (.map #[] 0) := by
    unfold wBorn
    rw [blk_alloc_lt (by simp only [World.size_alloc]; omega)]
    have := blk_alloc (w := w.alloc (.map #[] 0)) (o := .map #[] 0)
    simpa using this
  have e2 : (wBorn w).heap[w.heap.size + 2]? = some (.cells #[.map (some w.heap.size), .map (some (w.heap.size + 1)), .slice none 0 0, .int .i64 0, .int .i64 0, .int .i64 0, .slice none 0 0, .int .i64 0, .bool false] 102 (0, 0)) := by
    have := blk_alloc (w := (w.alloc (.map #[] 0)).alloc (.map #[] 0)) (o := .cells #[.map (some w.heap.size), .map (some (w.heap.size + 1)), .slice none 0 0, .int .i64 0, .int .i64 0, .int .i64 0, .slice none 0 0, .int .i64 0, .bool false] 102)
    simp only [World.size_alloc] at this
    exact this
  refine ⟨e2, by simp [bornLab], ⟨[], List.Perm.refl _, me e0⟩, by simp [bornLab, bornAdr], ⟨[], List.Perm.refl _, me e1⟩, by simp [bornLab, bornAdr], RowAt.none, RowAt.none, fun i f hf => by simp [Disk.new] at hf, fun k p hl => ?_⟩
  have hs : (wBorn w).heap.size = w.heap.size + 3 := by simp [wBorn]
  rw [hs]
  unfold bornLab at hl
  split at hl
  · omega
  · split at hl
    · omega
    · split at hl
      · omega
      · cases hl
theorem born_below (w : World) : Below w.heap.size w (wBorn w) := by
  unfold wBorn
  exact ((((Below.refl _ _).alloc (Nat.le_refl _) _).alloc (by simp) _).alloc (by simp; omega) _)
set_option maxRecDepth 100000 in
theorem new_calls (w : World) : Calls Tryz.prog 12 #[] w fun e w' => e = .returned (dptr (w.heap.size + 2)) ∧ w' = wBorn w := by
  have hmm := @run_makeMap Tryz.prog
  unfold dptr wBorn
  go_enter Tryz.func12, Tryz.ntmps12
  go_wp2
  go_ret
  exact ⟨rfl, rfl⟩
end Go.Proofs.YtkmmlfphcfcbgaaGreatDoor.Dw

/- Walks: SyncNames. -/
namespace Go.Proofs.YtkmmlfphcfcbgaaGreatDoor.Da
open Go.RowKit Go.ChangeMaps Go.Proofs.YtkmmlfphcfcbgaaGreatDoor.Mp Go.Proofs.YtkmmlfphcfcbgaaGreatDoor.Dm
set_option linter.unusedVariables false
set_option linter.unusedSimpArgs false
set_option linter.unusedSectionVars false
def sureLab (lab : Nat → Option Lb) (m2 : Nat) : Nat → Option Lb := fun k => if k = m2 then some .sure else if lab k = some .sure ∨ lab k = some .waiting then none else lab k
theorem DiskAt.names2 {B : Nat} {w w1 : World} {b : Nat} {A : Adr} {lab : Nat → Option Lb} {D : Disk} (h : DiskAt B w b A lab D) {m2 : Nat} {l : List (Name × Nat)} (hf : Frm (fun _ => False) w w1) (hm : NamesAt w1 m2 l A) (h1 : w.heap.size ≤ m2) (h2 : m2 < w1.heap.size) :
    Ext B b lab w ((w1.setCell ⟨b, 1, none⟩ (.map (some m2))).setCell ⟨b, 2, none⟩ (.slice none 0 0)) { D with sure := l, changes := [] } := by
  have hlt : ∀ k p, lab k = some p → k < w.heap.size := fun k p hl => (h.base k p hl).2
  have hl : ∀ k p, lab k = some p → p ≠ .sure → p ≠ .waiting → sureLab lab m2 k = some p := by
    intro k p hl hp hq
    have := hlt k p hl
    unfold sureLab
    rw [if_neg (by omega), if_neg (by rw [hl]; rintro (e | e) <;> cases e <;> contradiction), hl]
  have hk : ∀ k p, lab k = some p → p ≠ .main → ((w1.setCell ⟨b, 1, none⟩ (.map (some m2))).setCell ⟨b, 2, none⟩ (.slice none 0 0)).heap[k]? = w.heap[k]? := by
    intro k p hl hp
    rw [blk_set_ne (ne_of_lab hl h.lb hp), blk_set_ne (ne_of_lab hl h.lb hp)]
    exact hf.block k (hlt k p hl) id
  have hb1 : w1.heap[b]? = some (.cells (mainCells A D) 102 (0, 0)) := (hf.block b (hlt _ _ h.lb) id).trans h.blk
  have hbm : m2 ≠ b := by have := hlt _ _ h.lb; omega
  refine ⟨{ A with sm := m2, wv := .slice none 0 0 }, sureLab lab m2, ⟨?_, hl _ _ h.lb (by simp) (by simp), (h.names.same (hk _ _ h.lnm (by simp))), hl _ _ h.lnm (by simp) (by simp), ?_, ?_, RowAt.none, ?_, ?_, ?_⟩, ?_, ?_⟩
  · rw [blk_set (blk_set hb1)]; simp [mainCells]
  · refine NamesAt.same (w := w1) hm ?_
    rw [blk_set_ne hbm, blk_set_ne hbm]
  · unfold sureLab; rw [if_pos rfl]
  · exact (h.fails.same (fun k hl => hk k _ hl (by simp))).relab (fun k hl' => hl k _ hl' (by simp) (by simp))
  · intro i f hf'
    exact ((h.files i f hf').same (fun k p hl hp => hk k p hl (by rcases hp with rfl | rfl | rfl | rfl | rfl | rfl <;> simp))).relab
      (fun k p hl' hp => hl k p hl' (by rcases hp with rfl | rfl | rfl | rfl | rfl | rfl <;> simp) (by rcases hp with rfl | rfl | rfl | rfl | rfl | rfl <;> simp))
  · intro k p hl'
    have hs := hf.size
    simp only [World.size_setCell]
    have hB : B ≤ w.heap.size := Nat.le_of_lt (Nat.lt_of_le_of_lt (h.base b _ h.lb).1 (h.base b _ h.lb).2)
    unfold sureLab at hl'
    split at hl'
    · omega
    · split at hl'
      · cases hl'
      · have := h.base k p hl'; omega
  · have hF : Ft lab b := by unfold Ft; rw [h.lb]; rfl
    exact Frm.setCell (Frm.setCell (hf.mono (fun _ _ h => h.elim)) _ _ (fun _ => hF)) _ _ (fun _ => hF)
  · intro k hk' hl'
    unfold Ft sureLab at hl'
    unfold Ft
    rw [if_neg (by omega)] at hl'
    split at hl'
    · cases hl'
    · exact hl'
end Go.Proofs.YtkmmlfphcfcbgaaGreatDoor.Da
namespace Go.Proofs.YtkmmlfphcfcbgaaGreatDoor.Dw
open Go.RowKit Go.ChangeMaps Go.Proofs.YtkmmlfphcfcbgaaGreatDoor.Mp Go.Proofs.YtkmmlfphcfcbgaaGreatDoor.Dm Go.Proofs.YtkmmlfphcfcbgaaGreatDoor.Da
set_option linter.unusedVariables false
set_option linter.unusedSimpArgs false
set_option linter.unusedSectionVars false
set_option maxRecDepth 100000 in
theorem syncNames1 {W : World} (cd : Nat) : Calls Tryz.prog 93 #[.pointer (some ⟨cd, 0, none⟩)] W fun e W' =>
      e = .returned (.agg #[.nilIface, .func (.func 94) #[] #[.pointer (some ⟨cd, 0, none⟩)], .bool false, .nilFunc]) ∧ Frm (fun _ => False) W W' := by
  go_enter Tryz.func93, Tryz.ntmps93
  go_wp2
  exact bodyPost_ret (v := .agg #[.nilIface, .func (.func 94) #[] #[.pointer (some ⟨cd, 0, none⟩)], .bool false, .nilFunc]) (by simp [results, Tryz.results93, go_sem]) rfl ⟨rfl, (by repeat (first | (with_reducible assumption) | (with_reducible exact Frm.refl _ _) | (with_reducible apply Frm.drewN) | (with_reducible apply Frm.drew) | (with_reducible apply Frm.alloc) | (with_reducible refine Frm.setCell ?_ _ _ (fun h => absurd h (by first | (simp; done) | (simp; omega))))))⟩
set_option maxHeartbeats 1000000 in
set_option maxRecDepth 100000 in
theorem syncNames11 {B : Nat} {W : World} {b : Nat} {A : Adr} {lab : Nat → Option Lb} {D : Disk} (h : DiskAt B W b A lab D) (hw : WF D) (cd : Nat) (h1 : Cap W lab cd (dptr b)) (hC : D.changes.length < 1099511627776) :
    Calls Tryz.prog 94 #[.pointer (some ⟨cd, 0, none⟩)] W fun e W' => e = .returned (.tuple #[]) ∧ Ext B b lab W W' D.doSyncNames := by
  have q1 := h1.1
  have x1 : W.cell? ⟨b, 1, none⟩ = some (.map (some A.sm)) := main_cell h.blk rfl
  have x2 : W.cell? ⟨b, 2, none⟩ = some A.wv := main_cell h.blk rfl
  have xf : W.frozen? ⟨b, 1, none⟩ = false := frozen_of h.blk
  have blt := blk_lt h.blk
  have clt := h1.lt
  have hcb : cd ≠ b := by rintro rfl; have := h1.2; rw [h.lb] at this; cases this
  have hwv : (A.wv = .slice none 0 0 ∧ D.changes.length = 0) ∨ ∃ g c, A.wv = .slice (some ⟨g, 0, none⟩) D.changes.length c := by
    rcases h.waiting.cells with h2 | ⟨g, cap, hv, _⟩
    · exact .inl h2
    · exact .inr ⟨g, cap, hv⟩
  have h' : DiskAt B W.drew b A lab D := h.same (fun _ _ _ => rfl) (Nat.le_refl _)
  have KEY0 := left_calls h' hw (D.changes.length : Int) hC
  have hfin : Hid (∀ w1 m2, Frm (fun _ => False) W.drew w1 → NamesAt w1 m2 (D.left D.changes.length) A → W.heap.size ≤ m2 → m2 < w1.heap.size → Ext B b lab W ((w1.setCell ⟨b, 1, none⟩ (.map (some m2))).setCell ⟨b, 2, none⟩ (.slice none 0 0)) D.doSyncNames) := by
    intro w1 m2 hf hm g1 g2
    exact Ext.trans (Frm.refl _ _).drew (fun _ _ h => h) (h'.names2 hf hm g1 g2)
  have hblk := h.blk
  have HB := Lib.hid hblk
  have zz : Hid (∀ w1, Frm (fun _ => False) W.drew w1 → w1.cell? ⟨cd, 0, none⟩ = some (.pointer (some ⟨b, 0, none⟩)) ∧ w1.cell? ⟨b, 1, none⟩ = some (.map (some A.sm)) ∧ w1.cell? ⟨b, 2, none⟩ = some A.wv ∧ w1.frozen? ⟨b, 1, none⟩ = false ∧
      ∀ u, (w1.setCell ⟨b, 1, none⟩ u).cell? ⟨cd, 0, none⟩ = some (.pointer (some ⟨b, 0, none⟩)) ∧ (w1.setCell ⟨b, 1, none⟩ u).cell? ⟨b, 2, none⟩ = some A.wv ∧ (w1.setCell ⟨b, 1, none⟩ u).frozen? ⟨b, 2, none⟩ = false) := by
    intro w1 hf
    have e1 : w1.cell? ⟨cd, 0, none⟩ = some (.pointer (some ⟨b, 0, none⟩)) := (hf.cell clt id).trans q1
    have hbk : w1.heap[b]? = some (.cells (mainCells A D) 102 (0, 0)) := (hf.block b blt id).trans HB.out
    refine ⟨e1, cell_of hbk rfl, cell_of hbk rfl, frozen_of hbk, fun u => ⟨?_, cell_of (blk_set hbk) rfl, frozen_of (blk_set hbk)⟩⟩
    rw [World.cell?_setCell_other w1 _ _ u (fun e => hcb (by simpa using e.symm))]
    exact e1
  unfold dptr at q1
  clear h h1 h' hblk hw hC
  rcases hwv with ⟨e1, e2⟩ | ⟨g, c, e1⟩
  · rw [e1] at x2 zz
    rw [e2] at KEY0
    simp only [Int.natCast_zero, Int.toNat_zero] at KEY0
    rw [e2] at hfin
    have KEY := Lib.hid KEY0
    clear KEY0 e1 e2 hcb
    unfold dptr at KEY
    go_enter Tryz.func94, Tryz.ntmps94
    go_wp2_with fail
    go_region_held3 (fun w' => w'.cell? ⟨cd, 0, none⟩ = some (.pointer (some ⟨b, 0, none⟩)) ∧ w'.cell? ⟨b, 2, none⟩ = some (.slice none 0 0))
      (first | go_keep | exact ⟨(zz.out w1 HX.out.2.1).1, (zz.out w1 HX.out.2.1).2.2.1⟩ | exact ⟨((zz.out w1 HX.out.2.1).2.2.2.2 _).1, ((zz.out w1 HX.out.2.1).2.2.2.2 _).2.1⟩)
      (first | (go_at_call 86; (with_reducible refine KEY.out.mono ?_); rintro e w1 ⟨m2, rfl, hm, hf, g1, g2⟩; have z2 := (zz.out w1 hf).2.1; have z4 := (zz.out w1 hf).2.2.2.1; have y1 := fun u => ((zz.out w1 hf).2.2.2.2 u).1; have y2 := fun u => ((zz.out w1 hf).2.2.2.2 u).2.1; have y3 := fun u => ((zz.out w1 hf).2.2.2.2 u).2.2; have HX := Lib.hid (And.intro hm (And.intro hf (And.intro g1 g2))); clear hm hf g1 g2))
    all_goals
      go_wp2
      go_end0
      exact ⟨rfl, hfin.out _ _ HX.out.2.1 HX.out.1 HX.out.2.2.1 HX.out.2.2.2⟩
  · rw [e1] at x2 zz
    simp only [Int.toNat_natCast] at KEY0
    have KEY := Lib.hid KEY0
    clear KEY0 e1 hcb
    unfold dptr at KEY
    go_enter Tryz.func94, Tryz.ntmps94
    go_wp2_with fail
    go_region_held3 (fun w' => w'.cell? ⟨cd, 0, none⟩ = some (.pointer (some ⟨b, 0, none⟩)) ∧ w'.cell? ⟨b, 2, none⟩ = some (.slice (some ⟨g, 0, none⟩) D.changes.length c))
      (first | go_keep | exact ⟨(zz.out w1 HX.out.2.1).1, (zz.out w1 HX.out.2.1).2.2.1⟩ | exact ⟨((zz.out w1 HX.out.2.1).2.2.2.2 _).1, ((zz.out w1 HX.out.2.1).2.2.2.2 _).2.1⟩)
      (first | (go_at_call 86; (with_reducible refine KEY.out.mono ?_); rintro e w1 ⟨m2, rfl, hm, hf, g1, g2⟩; have z2 := (zz.out w1 hf).2.1; have z4 := (zz.out w1 hf).2.2.2.1; have y1 := fun u => ((zz.out w1 hf).2.2.2.2 u).1; have y2 := fun u => ((zz.out w1 hf).2.2.2.2 u).2.1; have y3 := fun u => ((zz.out w1 hf).2.2.2.2 u).2.2; have HX := Lib.hid (And.intro hm (And.intro hf (And.intro g1 g2))); clear hm hf g1 g2))
    all_goals
      go_wp2
      go_end0
      exact ⟨rfl, hfin.out _ _ HX.out.2.1 HX.out.1 HX.out.2.2.1 HX.out.2.2.2⟩
end Go.Proofs.YtkmmlfphcfcbgaaGreatDoor.Dw

/- SyncNames, whole (printed by wip/tools/wrap.py). -/
namespace Go.Proofs.YtkmmlfphcfcbgaaGreatDoor.Dw
open Go.RowKit Go.ChangeMaps Go.Proofs.YtkmmlfphcfcbgaaGreatDoor.Mp Go.Proofs.YtkmmlfphcfcbgaaGreatDoor.Dm Go.Proofs.YtkmmlfphcfcbgaaGreatDoor.Da
set_option linter.unusedVariables false
set_option linter.unusedSimpArgs false
set_option linter.unusedSectionVars false
set_option maxHeartbeats 1000000 in
set_option maxRecDepth 100000 in
theorem syncnames_calls {B : Nat} {w : World} {b : Nat} {A : Adr} {lab : Nat → Option Lb} {D : Disk} {eb : Nat → Addr} {L : List Err} (h : DiskAt B w b A lab D) (he : ErrsAt B w eb L) (hw : WF D) (hb : Bnd D)  :
    Calls Tryz.prog 46 #[dptr b] w fun e W' => e = .returned (errV eb (D.syncNames).1) ∧ Ext B b lab w W' (D.syncNames).2 := by
  have hlt : ∀ k p, lab k = some p → k < w.heap.size := fun k p hl => (h.base k p hl).2
  have l0 : ∀ i, lab (w.heap.size + i) = none := by
    intro i
    rcases hc : lab (w.heap.size + i) with _ | p
    · rfl
    · have := hlt _ p hc; omega
  have key : ∀ W0, W0 = (w.alloc (.cells #[dptr b] 29)) →
      Calls Tryz.prog 70 #[dptr b, .func (.func 93) #[] #[.pointer (some ⟨w.heap.size, 0, none⟩)]] W0 fun e W' => e = .returned (errV eb (D.syncNames).1) ∧ Ext B b lab w W' (D.syncNames).2 := by
    intro W0 hW0
    have h0 : DiskAt B W0 b A lab D := by rw [hW0]; exact (h.alloc _)
    have he0 : ErrsAt B W0 eb L := by rw [hW0]; exact (he.alloc _)
    have f0 : Frm (Ft lab) w W0 := by rw [hW0]; exact ((Frm.refl _ _).alloc _)
    have c0 : Cap W0 lab w.heap.size (dptr b) := ⟨by rw [hW0]; exact (cell_of blk_alloc rfl), l0 0⟩
    have run := run_calls h0 he0 hb.count hb.since 93 #[.pointer (some ⟨w.heap.size, 0, none⟩)] (fun W => by kernel_rfl) (0) false 94
      #[.pointer (some ⟨w.heap.size, 0, none⟩)] (fun W => by kernel_rfl) (.nilFunc) (Disk.doSyncNames) (none)
      (by
        intro W hx
        obtain ⟨A1, lab1, g1, g2, g3⟩ := hx
        refine (syncNames1 (W := W) _).mono ?_
        rintro e W' ⟨rfl, hf⟩
        exact ⟨rfl, Ext.keep ⟨A1, lab1, g1, g2, g3⟩ hf (fun _ _ h => h)⟩)
      (by
        intro h00 W D1 hD1 hx
        obtain ⟨A1, lab1, g1, g2, g3⟩ := hx
        have hw1 : WF D1 := by
          rcases hD1 with rfl | ⟨_, rfl⟩
          · exact hw.tick
          · exact hw.tick.dark
        have hb1 : D1.files.length < 4611686018427387904 ∧ D1.changes.length < 1099511627776 := by rcases hD1 with rfl | ⟨_, rfl⟩ <;> exact ⟨hb.files, hb.changes⟩
        refine (syncNames11 g1 hw1 _ (c0.ext (B := B) (b := b) g2 g3) hb1.2).mono ?_
        rintro e W' ⟨rfl, hx⟩
        exact ⟨rfl, Ext.trans g2 g3 hx⟩)
      (.inl ⟨rfl, rfl⟩)
    refine run.mono ?_
    rintro e W' ⟨rfl, hx⟩
    exact ⟨rfl, Ext.trans f0 (fun _ _ h => h) hx⟩
  unfold dptr at key ⊢
  have KEY := Lib.hid key
  clear key l0
  go_enter Tryz.func46, Tryz.ntmps46
  go_wp2_with fail
  refine (KEY.out _ rfl).mono ?_
  rintro e W' ⟨rfl, hx⟩
  generalize hev : errV eb (D.syncNames).1 = ev
  go_wp2
  go_ret
  rw [hev]
  exact ⟨rfl, hx⟩
end Go.Proofs.YtkmmlfphcfcbgaaGreatDoor.Dw

/- A disk with its invariants and its measures: what each call leaves of them. -/
namespace Go.Proofs.YtkmmlfphcfcbgaaGreatDoor.Dm
set_option linter.unusedVariables false
theorem Inv.wf {D : Disk} (h : Inv D) : Go.Proofs.YtkmmlfphcfcbgaaGreatDoor.Da.WF D :=
  ⟨h.now.names, h.sure.names, h.now.lt, h.sure.lt, h.put, fun c hc n hn => by
    have := h.del c hc n hn
    unfold good at this
    simp only [Bool.and_eq_true, decide_eq_true_eq] at this
    omega⟩
/-- How many files, changes and operations there may be, how long a file may be. -/
structure Sz (n m : Nat) (D : Disk) : Prop where
  files : D.files.length ≤ n
  changes : D.changes.length ≤ n
  count : D.count ≤ n
  since : D.since ≤ n
  len : ∀ f, f ∈ D.files → f.seen.length ≤ m
theorem Sz.new : Sz 0 0 Disk.new := ⟨by simp [Disk.new], by simp [Disk.new], by simp [Disk.new], by simp [Disk.new], by simp [Disk.new]⟩
theorem Sz.mono {n m n' m' : Nat} {D : Disk} (h : Sz n m D) (hn : n ≤ n') (hm : m ≤ m') : Sz n' m' D :=
  ⟨Nat.le_trans h.files hn, Nat.le_trans h.changes hn, Nat.le_trans h.count hn, Nat.le_trans h.since hn, fun f hf => Nat.le_trans (h.len f hf) hm⟩
/-- .. where an operation has begun: files and changes are as before. -/
structure Szo (n m : Nat) (D : Disk) : Prop where
  files : D.files.length ≤ n
  changes : D.changes.length ≤ n
  count : D.count ≤ n + 1
  since : D.since ≤ n + 1
  len : ∀ f, f ∈ D.files → f.seen.length ≤ m
theorem Szo.up {n m m' : Nat} {D : Disk} (h : Szo n m D) (hm : m ≤ m') : Sz (n + 1) m' D :=
  ⟨Nat.le_succ_of_le h.files, Nat.le_succ_of_le h.changes, h.count, h.since, fun f hf => Nat.le_trans (h.len f hf) hm⟩
theorem Sz.tick {n m : Nat} {D : Disk} (h : Sz n m D) : Szo n m D.tick := ⟨h.files, h.changes, Nat.succ_le_succ h.count, Nat.succ_le_succ h.since, h.len⟩
theorem Sz.tickDark {n m : Nat} {D : Disk} (h : Sz n m D) : Szo n m D.tick.dark := ⟨h.files, h.changes, Nat.succ_le_succ h.count, Nat.succ_le_succ h.since, h.len⟩
theorem Sz.run {n m m' : Nat} {D : Disk} (h : Sz n m D) {ref : Err} {act : Disk → Disk} {wt : Bool} {part : Option (Int → Disk → Disk)} (hm : m ≤ m') (ha : ∀ D1, Szo n m D1 → Sz (n + 1) m' (act D1)) (hp : ∀ p k D1, part = some p → Szo n m D1 → Sz (n + 1) m' (p k D1)) : Sz (n + 1) m' (D.run ref act wt part).2 := by
  have h1 := h.tick.up hm
  have h2 := h.tickDark.up hm
  unfold Disk.run
  split
  · exact h.mono (Nat.le_succ _) hm
  · split
    · simp only []
      split
      · exact ha _ h.tickDark
      · exact h2
    · simp only []
      unfold failTo
      split
      · split
        · exact hp _ _ _ rfl h.tick
        · exact h1
      · exact h1
    · split
      · exact ha _ h.tick
      · exact h1
theorem mem_modify {α : Type} {l : List α} {i : Nat} {g : α → α} {x : α} (h : x ∈ l.modify i g) : x ∈ l ∨ ∃ y, y ∈ l ∧ x = g y := by
  obtain ⟨j, hj⟩ := List.mem_iff_getElem?.1 h
  rw [List.getElem?_modify] at hj
  obtain ⟨y, hy, he⟩ := Option.map_eq_some_iff.1 hj
  have hm := List.mem_of_getElem? hy
  split at he
  · exact .inr ⟨y, hm, he.symm⟩
  · exact .inl (by rw [← he]; exact hm)
theorem Szo.onFile {n m m' : Nat} {D : Disk} (h : Szo n m D) {nm : Name} {g : FileS → FileS} (hm : m ≤ m') (hg : ∀ f, f.seen.length ≤ m → (g f).seen.length ≤ m') : Sz (n + 1) m' (Disk.onFile nm g D) := by
  unfold Disk.onFile
  split
  · refine ⟨?_, Nat.le_succ_of_le h.changes, h.count, h.since, ?_⟩
    · have := h.files
      simp only [Disk.modify, List.length_modify]; omega
    · intro f hf
      rcases mem_modify hf with hf | ⟨f0, hf0, rfl⟩
      · exact Nat.le_trans (h.len f hf) hm
      · exact hg _ (h.len _ hf0)
  · exact h.up hm
theorem Sz.opCreate {n m : Nat} {D : Disk} (h : Sz n m D) (nm : Name) : Sz (n + 1) m (D.create nm).2 := by
  refine h.run (Nat.le_refl _) (fun D1 hD => ?_) (fun p k D1 hp => by cases hp)
  have h1 := hD.files
  have h2 := hD.changes
  refine ⟨by simp only [Disk.doCreate, List.length_append, List.length_singleton]; omega, by simp only [Disk.doCreate, List.length_append, List.length_singleton]; omega, hD.count, hD.since, fun f hf => ?_⟩
  rcases List.mem_append.1 hf with hf | hf
  · exact hD.len f hf
  · rw [List.mem_singleton.1 hf]; exact Nat.zero_le _
theorem add_len (data : List Int) (f : FileS) : (f.add data).seen.length = f.seen.length + data.length := by
  unfold FileS.add
  split
  · rename_i h; rw [h]; rfl
  · simp
theorem Sz.opAppend {n m : Nat} {D : Disk} (h : Sz n m D) (nm : Name) (data : List Int) : Sz (n + 1) (m + data.length) (D.append nm data).2 := by
  refine h.run (Nat.le_add_right _ _) (fun D1 hD => hD.onFile (Nat.le_add_right _ _) fun f hf => ?_) (fun p k D1 hp hD => ?_)
  · rw [add_len]; omega
  · cases hp
    refine hD.onFile (Nat.le_add_right _ _) fun f hf => ?_
    rw [add_len, List.length_take]; omega
theorem Sz.opSync {n m : Nat} {D : Disk} (h : Sz n m D) (nm : Name) : Sz (n + 1) m (D.sync nm).2 :=
  h.run (Nat.le_refl _) (fun D1 hD => hD.onFile (Nat.le_refl _) fun f hf => hf) (fun p k D1 hp => by cases hp)
theorem Sz.opSyncNames {n m : Nat} {D : Disk} (h : Sz n m D) : Sz (n + 1) m D.syncNames.2 :=
  h.run (Nat.le_refl _) (fun D1 hD => ⟨Nat.le_succ_of_le hD.files, Nat.zero_le _, hD.count, hD.since, hD.len⟩) (fun p k D1 hp => by cases hp)
theorem Sz.arm {n m : Nat} {D : Disk} (h : Sz n m D) (fails : List (Int × Int)) (cut : Int) : Sz n m (D.arm fails cut) := by
  unfold Disk.arm
  split
  · exact h
  · exact ⟨h.files, h.changes, h.count, Nat.zero_le _, h.len⟩
end Go.Proofs.YtkmmlfphcfcbgaaGreatDoor.Dm
namespace Go.Proofs.YtkmmlfphcfcbgaaGreatDoor.Dw
open Go.RowKit Go.ChangeMaps Go.Proofs.YtkmmlfphcfcbgaaGreatDoor.Mp Go.Proofs.YtkmmlfphcfcbgaaGreatDoor.Dm Go.Proofs.YtkmmlfphcfcbgaaGreatDoor.Da
set_option linter.unusedVariables false
set_option linter.unusedSimpArgs false
set_option linter.unusedSectionVars false
/-- Measures within which every number of the program's is small. -/
structure DFit (n m : Nat) : Prop where
  fn : n ≤ 1099511627775
  fm : m ≤ 4398046511104
  fw : n * ((m + 511) / 512) ≤ 18014398509481984
theorem DFit.small {n m : Nat} (hn : n ≤ 2097152) (hm : m ≤ 4398046511104) : DFit n m :=
  ⟨by omega, hm, Nat.le_trans (Nat.mul_le_mul hn (show (m + 511) / 512 ≤ 8589934592 by omega)) (by decide)⟩
theorem DFit.sum {n m : Nat} {D : Disk} (h : DFit n m) (hs : Sz n m D) : ∀ dk : List (Name × Nat), dk.length ≤ D.files.length → (dk.map (wl D)).sum ≤ 18014398509481984 := fun dk hd =>
  Nat.le_trans (sum_le (m := (m + 511) / 512) fun x _ => wl_le hs.len) (Nat.le_trans (Nat.mul_le_mul_right _ (Nat.le_trans hd hs.files)) h.fw)
/-- A disk at b, all of whose blocks stand behind B; the errors; the invariants; the measures. -/
structure Live (B : Nat) (w : World) (b : Nat) (lab : Nat → Option Lb) (eb : Nat → Addr) (L : List Err) (n m : Nat) (D : Disk) : Prop where
  dsk : ∃ A, DiskAt B w b A lab D
  ers : ErrsAt B w eb L
  inv : Inv D
  sz : Sz n m D
  fit : DFit n m
theorem Live.hm {B : Nat} {w : World} {b : Nat} {lab : Nat → Option Lb} {eb : Nat → Addr} {L : List Err} {n m : Nat} {D : Disk} (h : Live B w b lab eb L n m D) : m ≤ 4398046511104 := h.fit.fm
theorem Live.bnd {B : Nat} {w : World} {b : Nat} {lab : Nat → Option Lb} {eb : Nat → Addr} {L : List Err} {n m : Nat} {D : Disk} (h : Live B w b lab eb L n m D) : Bnd D := by
  obtain ⟨_, _, _, ⟨h1, h2, h3, h4, h5⟩, ⟨hn, hm, _⟩⟩ := h
  exact ⟨by omega, by omega, by omega, by omega, fun f hf => Nat.le_trans (h5 f hf) hm⟩
/-- Behind one call: the disk; what else has turned was the disk's. -/
def Next (B : Nat) (w : World) (lab : Nat → Option Lb) (w' : World) (b : Nat) (eb : Nat → Addr) (L : List Err) (n m : Nat) (D : Disk) : Prop :=
  ∃ lab', Live B w' b lab' eb L n m D ∧ Frm (Ft lab) w w' ∧ ∀ k, k < w.heap.size → Ft lab' k → Ft lab k
section
variable {B : Nat} {w : World} {b : Nat} {lab : Nat → Option Lb} {eb : Nat → Addr} {L : List Err} {n m : Nat} {D : Disk}
theorem Live.base (h : Live B w b lab eb L n m D) : ∀ k, Ft lab k → B ≤ k := by
  obtain ⟨⟨A, h⟩, _⟩ := h
  intro k hk
  obtain ⟨p, hp⟩ := Option.isSome_iff_exists.1 hk
  exact (h.base k p hp).1
theorem Live.next (h : Live B w b lab eb L n m D) {w' : World} {D' : Disk} {n' m' : Nat} (he : Ext B b lab w w' D') (hi : Inv D') (hs : Sz n' m' D') (hf : DFit n' m') : Next B w lab w' b eb L n' m' D' := by
  obtain ⟨A, lab', h1, h2, h3⟩ := he
  exact ⟨lab', ⟨⟨A, h1⟩, h.ers.frm h2 h.base, hi, hs, hf⟩, h2, h3⟩
theorem Live.frm (h : Live B w b lab eb L n m D) {w' : World} (hf : Frm (fun _ => False) w w') : Live B w' b lab eb L n m D := by
  obtain ⟨⟨A, h1⟩, h2, h3, h4, h5⟩ := h
  exact ⟨⟨A, h1.frame hf (fun _ h => h.elim)⟩, h2.frm hf (fun _ h => h.elim), h3, h4, h5⟩
theorem Live.createW (h : Live B w b lab eb L n m D) (hf : DFit (n + 1) m) (nm : Name) (hnm : nm.size ≤ 9223372036854775807) :
    Calls Tryz.prog 29 #[dptr b, .string nm] w fun e w' => e = .returned (errV eb (D.create nm).1) ∧ Next B w lab w' b eb L (n + 1) m (D.create nm).2 := by
  obtain ⟨A, h1⟩ := h.dsk
  refine (create_calls h1 h.ers h.inv.wf h.bnd nm hnm).mono ?_
  rintro e w' ⟨he, hx⟩
  exact ⟨he, h.next hx (h.inv.opCreate nm) (h.sz.opCreate nm) hf⟩
theorem Live.create (h : Live B w b lab eb L n m D) (hn : n + 1 ≤ 2097152) (nm : Name) (hnm : nm.size ≤ 9223372036854775807) :
    Calls Tryz.prog 29 #[dptr b, .string nm] w fun e w' => e = .returned (errV eb (D.create nm).1) ∧ Next B w lab w' b eb L (n + 1) m (D.create nm).2 :=
  h.createW (.small hn h.hm) nm hnm
theorem Live.appendW (h : Live B w b lab eb L n m D) (nm : Name) (pv : Option Addr) (cc : Nat) (data : List Int) (hf : DFit (n + 1) (m + data.length)) (hv : Given w lab (.slice pv data.length cc) data) (hcc : data.length ≤ cc) (hd : ∀ x, x ∈ data → 0 ≤ x ∧ x < 256) :
    Calls Tryz.prog 49 #[dptr b, .string nm, .slice pv data.length cc] w fun e w' => e = .returned (errV eb (D.append nm data).1) ∧ Next B w lab w' b eb L (n + 1) (m + data.length) (D.append nm data).2 := by
  obtain ⟨A, h1⟩ := h.dsk
  refine (append_calls h1 h.ers h.inv.wf h.bnd nm pv cc data hv hcc (by have := hf.fm; omega)).mono ?_
  rintro e w' ⟨he, hx⟩
  exact ⟨he, h.next hx (h.inv.opAppend nm data hd) (h.sz.opAppend nm data) hf⟩
theorem Live.append (h : Live B w b lab eb L n m D) (hn : n + 1 ≤ 2097152) (nm : Name) (pv : Option Addr) (cc : Nat) (data : List Int) (hv : Given w lab (.slice pv data.length cc) data) (hcc : data.length ≤ cc) (hm : m + data.length ≤ 4398046511104) (hd : ∀ x, x ∈ data → 0 ≤ x ∧ x < 256) :
    Calls Tryz.prog 49 #[dptr b, .string nm, .slice pv data.length cc] w fun e w' => e = .returned (errV eb (D.append nm data).1) ∧ Next B w lab w' b eb L (n + 1) (m + data.length) (D.append nm data).2 :=
  h.appendW nm pv cc data (.small hn hm) hv hcc hd
theorem Live.syncW (h : Live B w b lab eb L n m D) (hf : DFit (n + 1) m) (nm : Name) :
    Calls Tryz.prog 63 #[dptr b, .string nm] w fun e w' => e = .returned (errV eb (D.sync nm).1) ∧ Next B w lab w' b eb L (n + 1) m (D.sync nm).2 := by
  obtain ⟨A, h1⟩ := h.dsk
  refine (sync_calls h1 h.ers h.inv.wf h.bnd nm).mono ?_
  rintro e w' ⟨he, hx⟩
  exact ⟨he, h.next hx (h.inv.opSync nm) (h.sz.opSync nm) hf⟩
theorem Live.sync (h : Live B w b lab eb L n m D) (hn : n + 1 ≤ 2097152) (nm : Name) :
    Calls Tryz.prog 63 #[dptr b, .string nm] w fun e w' => e = .returned (errV eb (D.sync nm).1) ∧ Next B w lab w' b eb L (n + 1) m (D.sync nm).2 :=
  h.syncW (.small hn h.hm) nm
theorem Live.syncNamesW (h : Live B w b lab eb L n m D) (hf : DFit (n + 1) m) :
    Calls Tryz.prog 46 #[dptr b] w fun e w' => e = .returned (errV eb D.syncNames.1) ∧ Next B w lab w' b eb L (n + 1) m D.syncNames.2 := by
  obtain ⟨A, h1⟩ := h.dsk
  refine (syncnames_calls h1 h.ers h.inv.wf h.bnd).mono ?_
  rintro e w' ⟨he, hx⟩
  exact ⟨he, h.next hx h.inv.opSyncNames h.sz.opSyncNames hf⟩
theorem Live.syncNames (h : Live B w b lab eb L n m D) (hn : n + 1 ≤ 2097152) :
    Calls Tryz.prog 46 #[dptr b] w fun e w' => e = .returned (errV eb D.syncNames.1) ∧ Next B w lab w' b eb L (n + 1) m D.syncNames.2 :=
  h.syncNamesW (.small hn h.hm)
theorem Live.read (h : Live B w b lab eb L n m D) (nm : Name) :
    Calls Tryz.prog 38 #[dptr b, .string nm] w fun e w' => ∃ dv bv, e = .returned (.tuple #[dv, bv, errV eb (D.read nm).1]) ∧ w'.ownsRow w.heap.size 5 1 dv (D.read nm).2.1.length (u8s (D.read nm).2.1) ∧ w'.ownsRow w.heap.size 3 1 bv (D.read nm).2.2.length (i64s (D.read nm).2.2) ∧ Frm (fun _ => False) w w' := by
  obtain ⟨A, h1⟩ := h.dsk
  exact read_calls h1 h.ers h.inv h.bnd.len nm
theorem Live.waiting (h : Live B w b lab eb L n m D) :
    Calls Tryz.prog 39 #[dptr b] w fun e w' => e = .returned (.tuple #[.int .i64 D.waitingN, .int .i64 D.changes.length]) ∧ Frm (fun _ => False) w w' := by
  obtain ⟨A, h1⟩ := h.dsk
  exact waiting_calls h1 h.inv h.bnd.len (Nat.le_trans h.sz.files h.fit.fn) (h.fit.sum h.sz) h.bnd.changes
theorem Live.safe (h : Live B w b lab eb L n m D) :
    Calls Tryz.prog 33 #[dptr b] w fun e w' => ∃ v, e = .returned v ∧ ImgAt w' w.heap.size v (D.crash [] 0) ∧ Frm (fun _ => False) w w' := by
  obtain ⟨A, h1⟩ := h.dsk
  exact safe_calls h1 h.inv.wf h.inv h.bnd.len (Nat.le_trans h.sz.files h.fit.fn) (h.fit.sum h.sz) h.bnd.changes
theorem Live.crash (h : Live B w b lab eb L n m D) (fs : List Int) (k : Int) (p : Option Addr) (c : Nat) (hfs : ∀ j (hj : j < fs.length), ∃ ad, p = some ad ∧ w.cell? (ad.add j) = some (.int .i64 fs[j])) (hfl : fs.length ≤ 4611686018427387904) :
    Calls Tryz.prog 37 #[dptr b, .agg #[.slice p fs.length c, .int .i64 k]] w fun e w' => ∃ v, e = .returned v ∧ ImgAt w' w.heap.size v (D.crash fs k) ∧ Frm (fun _ => False) w w' := by
  obtain ⟨A, h1⟩ := h.dsk
  refine (crash_calls h1 h.inv.wf h.inv h.bnd.len (Nat.le_trans h.sz.files h.fit.fn) (h.fit.sum h.sz) h.bnd.changes fs k p c hfs hfl).mono ?_
  rintro e w' ⟨v, he, hx, hf⟩
  exact ⟨_, he, ImgAt.of hx, hf⟩
end
theorem Live.born {w : World} {eb : Nat → Addr} {L : List Err} (he : ErrsAt w.heap.size w eb L) : Live w.heap.size (wBorn w) (w.heap.size + 2) (bornLab w.heap.size) eb L 0 0 Disk.new :=
  ⟨⟨_, Go.Proofs.YtkmmlfphcfcbgaaGreatDoor.Dw.born w⟩, he.frm (Frm.of_below (born_below w) (fun _ => False)) (fun _ h => h.elim), Inv.new, Sz.new, .small (by decide) (by decide)⟩
end Go.Proofs.YtkmmlfphcfcbgaaGreatDoor.Dw

/- Walks: Names; Ops, Down and Names of no disk. -/
namespace Go.Proofs.YtkmmlfphcfcbgaaGreatDoor.Dw
open Go.RowKit Go.ChangeMaps Go.Proofs.YtkmmlfphcfcbgaaGreatDoor.Mp Go.Proofs.YtkmmlfphcfcbgaaGreatDoor.Dm Go.Proofs.YtkmmlfphcfcbgaaGreatDoor.Da
set_option linter.unusedVariables false
set_option linter.unusedSimpArgs false
set_option linter.unusedSectionVars false
set_option maxHeartbeats 1000000 in
set_option maxRecDepth 100000 in
theorem names_calls {B : Nat} {w : World} {b : Nat} {A : Adr} {lab : Nat → Option Lb} {D : Disk} {eb : Nat → Addr} {L : List Err} (h : DiskAt B w b A lab D) (he : ErrsAt B w eb L) (hi : Inv D) (hF : D.files.length ≤ 1099511627775) :
    Calls Tryz.prog 30 #[dptr b] w fun e w' => ∃ v, e = .returned (.tuple #[v, errV eb D.names.1]) ∧ w'.ownsRow w.heap.size 9 1 v D.names.2.length (strs D.names.2) ∧ Frm (fun _ => False) w w' := by
  have c8 : w.cell? ⟨b, 8, none⟩ = some (.bool D.off) := main_cell h.blk rfl
  have c0 : w.cell? ⟨b, 0, none⟩ = some (.map (some A.nm)) := main_cell h.blk rfl
  have hl := hi.now.len_le
  have KEY := Lib.hid (sorted_calls h.names hi.now.names (by omega))
  cases hoff : D.off with
  | true =>
    have hr : D.names = (eDown, []) := by unfold Disk.names; rw [if_pos hoff]
    rw [hr, errV_pos eb eDown (by decide)]
    rw [hoff] at c8
    have cd := he.down
    clear hr hoff h he hi KEY
    unfold dptr
    go_enter Tryz.func30, Tryz.ntmps30
    go_wp2
    go_quiet (fail)
    go_wp2
    go_ret2
    exact ⟨_, rfl, ⟨by simp [strs], .inl ⟨rfl, rfl⟩⟩, (by repeat (first | (with_reducible assumption) | (with_reducible exact Frm.refl _ _) | (with_reducible apply Frm.drewN) | (with_reducible apply Frm.drew) | (with_reducible apply Frm.alloc) | (with_reducible refine Frm.setCell ?_ _ _ (fun h => absurd h (by first | (simp; done) | (simp; omega))))))⟩
  | false =>
    have hr : D.names = (0, inOrder D.now) := by unfold Disk.names; rw [if_neg (by rw [hoff]; simp)]
    rw [hr, errV_zero]
    rw [hoff] at c8
    have hle : (inOrder D.now).length = D.now.length := (inOrder_perm _).length_eq
    have HLE := Lib.hid hle
    clear hr hoff h he hi hle
    unfold dptr
    go_enter Tryz.func30, Tryz.ntmps30
    go_wp2_with (first
      | (go_at_call 75; (with_reducible refine KEY.out.mono ?_); rintro e w1 ⟨p, c, rfl, hr1, hf1⟩; have HR := Lib.hid (And.intro hr1 hf1); clear hr1 hf1))
    go_ret2
    refine ⟨_, rfl, ?_, ?_⟩
    · rw [HLE.out]; exact HR.out.1
    · have hf := HR.out.2; exact hf
end Go.Proofs.YtkmmlfphcfcbgaaGreatDoor.Dw
