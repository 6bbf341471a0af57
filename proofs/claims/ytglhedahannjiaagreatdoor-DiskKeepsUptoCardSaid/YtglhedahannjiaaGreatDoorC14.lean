/- A part of the proof of diskDown_holds: Dl. No condition. -/
import Derived.Test.YtglhedahannjiaaGreatDoorC13

/- Walks: Rename's closures. -/
namespace Go.Proofs.YtglhedahannjiaaGreatDoor.Dw
open Go.RowKit Go.ChangeMaps Go.Proofs.YtglhedahannjiaaGreatDoor.Mp Go.Proofs.YtglhedahannjiaaGreatDoor.Dm Go.Proofs.YtglhedahannjiaaGreatDoor.Da
set_option linter.unusedVariables false
set_option linter.unusedSimpArgs false
set_option linter.unusedSectionVars false
set_option maxHeartbeats 8000000 in
set_option maxRecDepth 100000 in
theorem rename1 {B : Nat} {W : World} {b : Nat} {A : Adr} {lab : Nat → Option Lb} {D : Disk} {eb : Nat → Addr} {L : List Err} (h : DiskAt B W b A lab D) (he : ErrsAt B W eb L) (hw : WF D) (n m : Name) (hm : m.size ≤ 9223372036854775807) (cd cn cm : Nat)
    (h1 : W.cell? ⟨cd, 0, none⟩ = some (dptr b)) (h2 : W.cell? ⟨cn, 0, none⟩ = some (.string n)) (h3 : W.cell? ⟨cm, 0, none⟩ = some (.string m)) :
    Calls Tryz.prog 116 #[.pointer (some ⟨cd, 0, none⟩), .pointer (some ⟨cn, 0, none⟩), .pointer (some ⟨cm, 0, none⟩)] W fun e W' =>
      e = .returned (.agg #[errV eb (D.refuseRename n m), .func (.func 117) #[] #[.pointer (some ⟨cn, 0, none⟩), .pointer (some ⟨cm, 0, none⟩), .pointer (some ⟨cd, 0, none⟩)], .bool true, .nilFunc]) ∧ Frm (fun _ => False) W W' := by
  have ca := he.arg
  obtain ⟨n10, n11, n12⟩ := ne2 (World.block_lt_of_cell? W _ h1)
  obtain ⟨n20, n21, n22⟩ := ne2 (World.block_lt_of_cell? W _ h2)
  obtain ⟨n30, n31, n32⟩ := ne2 (World.block_lt_of_cell? W _ h3)
  obtain ⟨n40, n41, n42⟩ := ne2 (World.block_lt_of_cell? W _ ca)
  have key : ∀ o, Calls Tryz.prog 53 #[dptr b, .string n] (W.alloc o) fun e w' => e = .returned (errV eb (D.gone n)) ∧ w' = W.alloc o :=
    fun o => gone_calls (h.alloc o) (he.alloc o) hw.nowN n
  unfold dptr at h1 key
  have KEY := Lib.hid key
  clear key
  have hv : ∃ ev, errV eb (D.gone n) = ev ∧ (ev = .nilIface ∨ ∃ r, ev = .iface 228 (.pointer (some r))) := by
    refine ⟨_, rfl, ?_⟩
    by_cases h0 : D.gone n = 0
    · rw [h0, errV_zero]; exact .inl rfl
    · rw [errV_pos eb _ h0]; exact .inr ⟨_, rfl⟩
  obtain ⟨ev, hev, hform⟩ := hv
  by_cases hg : good m = false
  · have hr : D.refuseRename n m = eArg := by simp [Disk.refuseRename, hg]
    rw [hr, errV_pos eb eArg (by decide)]
    rcases hform with rfl | ⟨r, rfl⟩ <;> (
      go_enter Tryz.func116, Tryz.ntmps116
      go_wp2_with fail
      refine (KEY.out _).mono ?_
      rintro e w' ⟨rfl, rfl⟩
      rw [hev]
      go_wp2_with (first | (go_at_call 51; refine (goodName_calls m _ hm).mono ?_; rw [hg]; rintro e w' ⟨rfl, rfl⟩))
      exact bodyPost_ret (v := .agg #[.iface 228 (.pointer (some (eb 1))), .func (.func 117) #[] #[.pointer (some ⟨cn, 0, none⟩), .pointer (some ⟨cm, 0, none⟩), .pointer (some ⟨cd, 0, none⟩)], .bool true, .nilFunc]) (by simp [results, Tryz.results116, go_sem]) rfl ⟨rfl, (by repeat (first | (with_reducible assumption) | (with_reducible exact Frm.refl _ _) | (with_reducible apply Frm.drewN) | (with_reducible apply Frm.drew) | (with_reducible apply Frm.alloc) | (with_reducible refine Frm.setCell ?_ _ _ (fun h => absurd h (by first | (simp; done) | (simp; omega))))))⟩)
  · have hg' : good m = true := by simpa using hg
    have hr : D.refuseRename n m = D.gone n := by simp [Disk.refuseRename, hg']
    rw [hr, hev]
    rcases hform with rfl | ⟨r, rfl⟩
    · go_enter Tryz.func116, Tryz.ntmps116
      go_wp2_with fail
      refine (KEY.out _).mono ?_
      rintro e w' ⟨rfl, rfl⟩
      rw [hev]
      go_wp2_with (first | (go_at_call 51; refine (goodName_calls m _ hm).mono ?_; rw [hg']; rintro e w' ⟨rfl, rfl⟩))
      exact bodyPost_ret (v := .agg #[.nilIface, .func (.func 117) #[] #[.pointer (some ⟨cn, 0, none⟩), .pointer (some ⟨cm, 0, none⟩), .pointer (some ⟨cd, 0, none⟩)], .bool true, .nilFunc]) (by simp [results, Tryz.results116, go_sem]) rfl ⟨rfl, (by repeat (first | (with_reducible assumption) | (with_reducible exact Frm.refl _ _) | (with_reducible apply Frm.drewN) | (with_reducible apply Frm.drew) | (with_reducible apply Frm.alloc) | (with_reducible refine Frm.setCell ?_ _ _ (fun h => absurd h (by first | (simp; done) | (simp; omega))))))⟩
    · go_enter Tryz.func116, Tryz.ntmps116
      go_wp2_with fail
      refine (KEY.out _).mono ?_
      rintro e w' ⟨rfl, rfl⟩
      rw [hev]
      go_wp2_with (first | (go_at_call 51; refine (goodName_calls m _ hm).mono ?_; rw [hg']; rintro e w' ⟨rfl, rfl⟩))
      exact bodyPost_ret (v := .agg #[.iface 228 (.pointer (some r)), .func (.func 117) #[] #[.pointer (some ⟨cn, 0, none⟩), .pointer (some ⟨cm, 0, none⟩), .pointer (some ⟨cd, 0, none⟩)], .bool true, .nilFunc]) (by simp [results, Tryz.results116, go_sem]) rfl ⟨rfl, (by repeat (first | (with_reducible assumption) | (with_reducible exact Frm.refl _ _) | (with_reducible apply Frm.drewN) | (with_reducible apply Frm.drew) | (with_reducible apply Frm.alloc) | (with_reducible refine Frm.setCell ?_ _ _ (fun h => absurd h (by first | (simp; done) | (simp; omega))))))⟩
set_option maxHeartbeats 8000000 in
set_option maxRecDepth 100000 in
theorem rename11 {B : Nat} {W : World} {b : Nat} {A : Adr} {lab : Nat → Option Lb} {D : Disk} (h : DiskAt B W b A lab D) (hw : WF D) (n m : Name) (hex : (find D.now n).isSome = true) (cn cm cd : Nat) (h2 : Cap W lab cn (.string n)) (h3 : Cap W lab cm (.string m)) (h1 : Cap W lab cd (dptr b))
    (hC : D.changes.length < 1099511627776) :
    Calls Tryz.prog 117 #[.pointer (some ⟨cn, 0, none⟩), .pointer (some ⟨cm, 0, none⟩), .pointer (some ⟨cd, 0, none⟩)] W fun e W' => e = .returned (.tuple #[]) ∧ Ext B b lab W W' (D.doRename n m) := by
  have q1 := h1.1
  have q2 := h2.1
  have q3 := h3.1
  unfold dptr at q1
  by_cases hnm : n = m
  · have hd : D.doRename n m = D := by simp [Disk.doRename, hnm]
    rw [hd]
    have hb : (ByteArray.toList n == ByteArray.toList m) = true := by rw [hnm]; simp
    have H := Lib.hid h
    clear h hd hnm
    go_enter Tryz.func117, Tryz.ntmps117
    go_wp2
    refine bodyPost_ret (results_none rfl _ _ _) rfl ?_
    exact ⟨rfl, Ext.refl H.out⟩
  obtain ⟨i, hi⟩ := Option.isSome_iff_exists.1 hex
  have hd : D.doRename n m = { D with now := put (erase D.now n) m i, changes := D.changes ++ [⟨some n, some (m, i)⟩] } := by simp [Disk.doRename, hnm, hi]
  rw [hd]
  have hb : (ByteArray.toList n == ByteArray.toList m) = false := by
    rw [ByteArray.toList_eq, ByteArray.toList_eq, beq_eq_false_iff_ne]
    exact fun e => hnm (ByteArray.ext (Array.toList_inj.1 e))
  have r0 : W.cell? ⟨b, 0, none⟩ = some (.map (some A.nm)) := main_cell h.blk rfl
  obtain ⟨l', hp, hm⟩ := h.names
  have hl := look_names hp hw.nowN A n
  rw [hi] at hl
  have lk : ∀ nq, (Instr.lookup 85 (.map (some A.nm)) (.string n) false).run Tryz.prog (W.drewN nq) = .ok (.pointer (some ⟨(A.fa i).fb, 0, none⟩)) (W.drewN nq) := by
    intro nq
    have hm' : MapAt Value.string (W.drewN nq) A.nm (l'.map fun p => (p.1, fptr A p.2)) := hm.of_block rfl
    have := hm'.lookup kS Tryz.underlying85 (zP _) n false
    rw [this, hl]; rfl
  have HP := Lib.hid hp
  have H := Lib.hid h
  have HL := Lib.hid hl
  clear hp h hl hd hi hnm hex
  go_enter Tryz.func117, Tryz.ntmps117
  go_wp2
  go_quiet (fail)
  have DN : DiskAt B (W.drewN nq) b A lab D := H.out.same (fun _ _ _ => rfl) (Nat.le_refl _)
  have f1 : Frm (Ft lab) W (W.drewN nq) := (Frm.refl _ _).drewN _
  have c1 : Cap (W.drewN nq) lab cd (dptr b) := ⟨h1.1, h1.2⟩
  have c2 : Cap (W.drewN nq) lab cn (.string n) := ⟨h2.1, h2.2⟩
  have c3 : Cap (W.drewN nq) lab cm (.string m) := ⟨h3.1, h3.2⟩
  have hmN : MapAt Value.string (W.drewN nq) A.nm (l'.map fun p => (p.1, fptr A p.2)) := hm.of_block rfl
  clear lk hm q1 q2 q3 r0 hb
  generalize W.drewN nq = Wn at *
  have q1 := c1.1
  have q2 := c2.1
  have q3 := c3.1
  have r0 : Wn.cell? ⟨b, 0, none⟩ = some (.map (some A.nm)) := main_cell DN.blk rfl
  unfold dptr at q1
  have HN := Lib.hid DN
  clear DN
  go_wp2_with fail
  go_still_tail 5, (by kernel_rfl)
  change wpList _ _ _ _ _ Wn.drew
  refine wpl_delete _ rfl _ _ rfl kS Tryz.underlying85 n rfl rfl hmN ?_
  intro W1 hm1 hg1 hs1
  obtain ⟨l1, hp1, hl1⟩ := delL_names HP.out hw.nowN A n
  have hm1' : MapAt Value.string W1 A.nm (l1.map fun p => (p.1, fptr A p.2)) := by rw [← hl1]; exact hm1
  have G1 : DiskAt B W1 b A lab { D with now := erase D.now n } ∧ Frm (Ft lab) Wn W1 :=
    HN.out.setNow (w' := W1) ⟨l1, hp1, hm1'⟩ ⟨hg1.os, hg1.tape, hg1.output, hg1.size, hg1.block⟩
  have n1 : ((erase D.now n).map (·.1)).Nodup := by
    unfold erase; exact hw.nowN.sublist (List.filter_sublist.map _)
  clear hm1 hg1 hs1 hl1 hmN r0 q1 q2 q3
  have q1 := c1.frm G1.2
  have q2 := c2.frm G1.2
  have q3 := c3.frm G1.2
  have r0 : W1.cell? ⟨b, 0, none⟩ = some (.map (some A.nm)) := main_cell G1.1.blk rfl
  unfold dptr at q1
  have HG1 := Lib.hid G1
  have HP1 := Lib.hid hp1
  clear G1 hp1
  go_wp2_with fail
  go_still_tail 6, (by kernel_rfl)
  change wpList _ _ _ _ _ W1.drew
  refine wpl_update _ rfl _ _ _ rfl kS Tryz.underlying85 m rfl rfl hm1' ?_
  intro W2 hm2 hg2 hs2
  obtain ⟨l2, hp2, hl2⟩ := setL_names HP1.out n1 A m i
  have G2 : DiskAt B W2 b A lab { D with now := put (erase D.now n) m i } ∧ Frm (Ft lab) W1 W2 := by
    have e : setL (l1.map fun p => (p.1, fptr A p.2)) m (.pointer (some ⟨(A.fa i).fb, 0, none⟩)) = l2.map fun p => (p.1, fptr A p.2) := hl2
    have hm3 : MapAt Value.string W2 A.nm (l2.map fun p => (p.1, fptr A p.2)) := by rw [← e]; exact hm2
    exact HG1.out.1.setNow (w' := W2) ⟨l2, hp2, hm3⟩ ⟨hg2.os, hg2.tape, hg2.output, hg2.size, hg2.block⟩
  have f2 := HG1.out.2
  clear hm2 hg2 hs2 hl2 hp2 hm1' r0 q1 q2 q3
  have s1 := c1.frm (f2.trans G2.2 (fun _ _ h => h))
  have s2 := c2.frm (f2.trans G2.2 (fun _ _ h => h))
  have s4 := c3.frm (f2.trans G2.2 (fun _ _ h => h))
  unfold dptr at s1
  have s3 : W2.cell? ⟨b, 2, none⟩ = some A.wv := main_cell G2.1.blk rfl
  have sf : W2.frozen? ⟨b, 2, none⟩ = false := frozen_of G2.1.blk
  have GG := Lib.hid G2
  clear G2
  have hown := GG.out.1.waiting.row
  have ab : A.wv.ownBlock ≠ some b := fun e => by have := GG.out.1.waiting.lab b e; rw [GG.out.1.lb] at this; cases this
  have acd : A.wv.ownBlock ≠ some cd := fun e => by have := H.out.waiting.lab cd e; rw [h1.2] at this; cases this
  have acn : A.wv.ownBlock ≠ some cn := fun e => by have := H.out.waiting.lab cn e; rw [h2.2] at this; cases this
  have acm : A.wv.ownBlock ≠ some cm := fun e => by have := H.out.waiting.lab cm e; rw [h3.2] at this; cases this
  have lb := World.block_lt_of_cell? W2 _ s3
  have lcd := World.block_lt_of_cell? W2 _ s1
  have lcn := World.block_lt_of_cell? W2 _ s2
  have lcm := World.block_lt_of_cell? W2 _ s4
  have hmx : maxLen = 9223372036854775807 := by decide
  have hn1 : D.changes.length + 1 ≤ maxLen := by omega
  have hb1 : (D.changes.length + 1) * 40 ≤ 140737488355328 := by omega
  obtain ⟨i0, hi0, hz0, hz1, hz2⟩ := info_parts changeInfo
  clear hmx
  have k1 := cell_drew (cell_alloc (o := .cells #[.string n, .string m, .pointer (some ⟨(A.fa i).fb, 0, none⟩)] 96) s1)
  have k2 := frozen_drew (frozen_alloc (o := .cells #[.string n, .string m, .pointer (some ⟨(A.fa i).fb, 0, none⟩)] 96) lb sf)
  have k3 := cell_drew (cell_alloc (o := .cells #[.string n, .string m, .pointer (some ⟨(A.fa i).fb, 0, none⟩)] 96) s3)
  have k4 := cell_drew (cell_alloc (o := .cells #[.string n, .string m, .pointer (some ⟨(A.fa i).fb, 0, none⟩)] 96) s2)
  have k5 := cell_drew (cell_alloc (o := .cells #[.string n, .string m, .pointer (some ⟨(A.fa i).fb, 0, none⟩)] 96) s4)
  have KEEP0 := Lib.hid (And.intro k1 (And.intro k3 (And.intro k4 (And.intro k5 k2))))
  clear k1 k2 k3 k4 k5
  have hfin : Hid (∀ gg cap w1, w1.ownsRow 0 96 3 (.slice (some ⟨gg, 0, none⟩) (D.changes.length + 1) cap) (D.changes.length + 1) (D.changes.flatMap (chgCells A) ++ [.string n, .string m, .pointer (some ⟨(A.fa i).fb, 0, none⟩)]) →
      ((W2.alloc (.cells #[.string n, .string m, .pointer (some ⟨(A.fa i).fb, 0, none⟩)] 96)).drew).grownBy w1 A.wv.ownBlock → (A.wv.ownBlock = some gg ∨ gg = W2.heap.size + 1) → gg < w1.heap.size →
      Ext B b lab W (w1.setCell ⟨b, 2, none⟩ (.slice (some ⟨gg, 0, none⟩) (D.changes.length + 1) cap)) { D with now := put (erase D.now n) m i, changes := D.changes ++ [⟨some n, some (m, i)⟩] }) := by
    intro gg cap w1 ho hg hat hlt
    obtain ⟨d1, d2, d3⟩ := GG.out.1.setWaiting (w1 := w1) (v' := .slice (some ⟨gg, 0, none⟩) (D.changes.length + 1) cap) (cs := D.changes ++ [⟨some n, some (m, i)⟩])
      (by simpa [chgCells, fptr] using ho) (grown_alloc hg) (by
        rcases hat with h0 | h0
        · exact .inl h0.symm
        · refine .inr fun g e => ?_
          have : gg = g := by simpa [Value.ownBlock] using e
          omega)
    exact Ext.trans (f1.trans (f2.trans GG.out.2 (fun _ _ h => h)) (fun _ _ h => h)) (fun _ _ h => h) (Ext.trans d2 d3 (Ext.refl d1))
  have hwn := (World.news_of_block (cs := #[.string n, .string m, .pointer (some ⟨(A.fa i).fb, 0, none⟩)]) (t := 96) (fr := (0, 0)) (heap_alloc_new W2 _))
  have HWN := Lib.hid hwn
  clear hwn
  have HOWN := Lib.hid ((hown.alloc (.cells #[.string n, .string m, .pointer (some ⟨(A.fa i).fb, 0, none⟩)] 96)).drew)
  clear hown
  go_wp2_with fail
  go_region_law ((refine step_append_lies _ (by rfl) _ _ _ (by rfl) 0 96 i0 _ 3 40 Tryz.underlying86 hi0 hz0 hz1 hz2 rfl (by omega) A.wv D.changes.length _ (by rfl) HOWN.out ⟨W2.heap.size, 0, none⟩ 1 1 [.string n, .string m, .pointer (some ⟨(A.fa i).fb, 0, none⟩)] (by rfl) (by rfl) HWN.out (by simp [Value.oneCell']) (by omega) hn1 hb1 (by simp) (W2.heap.size + 1) (by simp) ?_; intro gg cap w1 hown1 hgrow hat hlt; have z1 := (hgrow.cell_far ⟨b, 2, none⟩ (by simp; omega) (Ne.symm ab)).trans (cell_drew (cell_alloc s3)); have z2 := (hgrow.frozen_far ⟨b, 2, none⟩ (by simp; omega) (Ne.symm ab)).trans (frozen_drew (frozen_alloc lb sf)); have z3 := (hgrow.cell_far ⟨cd, 0, none⟩ (by simp; omega) (Ne.symm acd)).trans (cell_drew (cell_alloc s1)); have z4 := (hgrow.cell_far ⟨cn, 0, none⟩ (by simp; omega) (Ne.symm acn)).trans (cell_drew (cell_alloc s2)); have z5 := (hgrow.cell_far ⟨cm, 0, none⟩ (by simp; omega) (Ne.symm acm)).trans (cell_drew (cell_alloc s4))))
  all_goals
    go_end0
    exact ⟨rfl, hfin.out gg cap w1 hown1 hgrow hat hlt⟩
end Go.Proofs.YtglhedahannjiaaGreatDoor.Dw
