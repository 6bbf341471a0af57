/- A part of the proof of segmentMemoryUpto_holds: Eo, Ep, Dh, Dcp, De, Dj, DeRemove. No condition. -/
import Derived.Test.YtkmmlfphcfcbgaaGreatDoorC16

/- Walks: Safe, Waiting. -/
namespace Go.Proofs.YtkmmlfphcfcbgaaGreatDoor.Dw
open Go.RowKit Go.ChangeMaps Go.Proofs.YtkmmlfphcfcbgaaGreatDoor.Mp Go.Proofs.YtkmmlfphcfcbgaaGreatDoor.Dm Go.Proofs.YtkmmlfphcfcbgaaGreatDoor.Da
open Go.Proofs.YtkmmlfphcfcbgaaGreatDoorW.PrintWords (Kd)
set_option linter.unusedVariables false
set_option linter.unusedSimpArgs false
set_option linter.unusedSectionVars false
/-- An image in memory made by the call (a struct of one field). -/
def ImgAt (w : World) (base : Nat) (v : Value) (l : List Plain) : Prop := ∃ A c, v = .agg #[.slice A l.length c] ∧ fileK.R 78 w base (fun _ => True) (.slice A l.length c) l
theorem ImgAt.of {w : World} {base : Nat} {v : Value} {l : List Plain} (h : fileK.R 78 w base (fun _ => True) v l) : ImgAt w base (.agg #[v]) l := by
  obtain ⟨A, c, e, _⟩ := Kd.R_reads h
  subst e
  exact ⟨A, c, rfl, h⟩
theorem img_types {q : Nat} (hq : q ∈ 78 :: fileK.E) : q = 78 ∨ q = 5 ∨ q = 3 := by
  simp only [fileK, Kd.iso, Kd.pair, Kd.string, Kd.int, Kd.scalar, Kd.slice, List.mem_cons, List.mem_append, List.not_mem_nil, or_false, false_or] at hq
  exact hq
set_option maxHeartbeats 1000000 in
set_option maxRecDepth 100000 in
theorem safe_calls {B : Nat} {w : World} {b : Nat} {A : Adr} {lab : Nat → Option Lb} {D : Disk} (h : DiskAt B w b A lab D) (hw : WF D) (hi : Inv D) (hlen : ∀ f, f ∈ D.files → f.seen.length ≤ 4398046511104) (hF : D.files.length ≤ 1099511627775) (hsum : ∀ dk : List (Name × Nat), dk.length ≤ D.files.length → (dk.map (wl D)).sum ≤ 18014398509481984) (hC : D.changes.length < 1099511627776) :
    Calls Tryz.prog 33 #[dptr b] w fun e w' => ∃ v, e = .returned v ∧ ImgAt w' w.heap.size v (D.crash [] 0) ∧ Frm (fun _ => False) w w' := by
  have KEY0 : ∀ o, Calls Tryz.prog 37 #[dptr b, .agg #[.slice none 0 0, .int .i64 0]] (w.alloc o) fun e w' => ∃ A c, e = .returned (.agg #[.slice A (D.crash [] 0).length c]) ∧ fileK.R 78 w' w.heap.size (fun _ => True) (.slice A (D.crash [] 0).length c) (D.crash [] 0) ∧ Frm (fun _ => False) (w.alloc o) w' := by
    intro o
    have := crash_calls (h.alloc o) hw hi hlen hF hsum hC [] 0 none 0 (fun j hj => absurd hj (by simp)) (by simp)
    refine this.mono ?_
    rintro e w' ⟨v, rfl, h1, h2⟩
    obtain ⟨A2, c2, e, _⟩ := Kd.R_reads h1
    subst e
    exact ⟨A2, c2, rfl, Kd.R_lower h1 (by simp), h2⟩
  have KEY := Lib.hid KEY0
  clear KEY0 h hw hi hlen
  unfold dptr at KEY ⊢
  generalize D.crash [] 0 = img at *
  go_enter Tryz.func33, Tryz.ntmps33
  go_wp2_with fail
  refine (KEY.out _).mono ?_
  rintro e w1 ⟨A2, c2, rfl, h1, h2⟩
  have hres : w1.heap[w.heap.size]? = some (.cells #[.slice none 0 0] 74 (0, 0)) := (h2.block _ (by simp) id).trans blk_alloc
  have r0 := cell_of (i := 0) hres rfl
  have q0 := frozen_of (i := 0) hres
  have HR := Lib.hid (And.intro h1 (And.intro h2 hres))
  clear h1 h2 hres
  go_wp2_with fail
  obtain ⟨h1, h2, hres⟩ := HR.out
  have kf := blk_set (i := 0) (v := .slice A2 img.length c2) hres
  have y0 := cell_of (i := 0) kf rfl
  refine bodyPost_ret (v := .agg #[.slice A2 img.length c2]) (by simp [results, Tryz.results33, go_sem, y0]) rfl ⟨_, rfl, ⟨A2, c2, rfl, ?_⟩, ?_⟩
  · exact Kd.R_set h1 hres (fun q hq => by rcases img_types hq with rfl | rfl | rfl <;> decide) _ _
  · exact Frm.setCell (((Frm.refl _ _).alloc _).trans h2 (fun _ _ h => h)) _ _ (fun h => absurd h (by simp))
/-- In Waiting's loop. -/
structure WaitInv (w wr : World) (D : Disk) (A : Adr) (m it : Nat) (ks tk dk : List (Name × Nat)) : Prop where
  frm : Frm (fun _ => False) w wr
  iter : IterAt Value.string wr it m (nent A ks) (nent A tk)
  perm : (tk ++ dk).Perm ks
set_option maxHeartbeats 1000000 in
set_option maxRecDepth 100000 in
theorem waiting_calls {B : Nat} {w : World} {b : Nat} {A : Adr} {lab : Nat → Option Lb} {D : Disk} (h : DiskAt B w b A lab D) (hi : Inv D) (hlen : ∀ f, f ∈ D.files → f.seen.length ≤ 4398046511104) (hF : D.files.length ≤ 1099511627775) (hsum : ∀ dk : List (Name × Nat), dk.length ≤ D.files.length → (dk.map (wl D)).sum ≤ 18014398509481984) (hC : D.changes.length < 1099511627776) :
    Calls Tryz.prog 39 #[dptr b] w fun e w' => e = .returned (.tuple #[.int .i64 D.waitingN, .int .i64 D.changes.length]) ∧ Frm (fun _ => False) w w' := by
  have c0 : w.cell? ⟨b, 0, none⟩ = some (.map (some A.nm)) := main_cell h.blk rfl
  have hnl := hi.now.len_le
  obtain ⟨ks, hp, hks⟩ := h.names
  change MapAt Value.string w A.nm (nent A ks) at hks
  have blt := Da.blk_lt h.blk
  have hmlt := hks.lt
  have hsumN : Hid (∀ dk : List (Name × Nat), dk.Perm ks → (dk.map (wl D)).sum = D.waitingN) := by
    intro dk hd
    exact ((hd.trans hp).map (wl D)).sum_nat
  have hbd : Hid (∀ dk : List (Name × Nat), (∀ p, p ∈ dk → p ∈ ks) → dk.length ≤ D.files.length → (dk.map (wl D)).sum ≤ 18014398509481984) := by
    intro dk _ hl
    exact hsum dk hl
  have hkl : ks.length ≤ D.files.length := by have := hp.length_eq; omega
  have hwv : (A.wv = .slice none 0 0 ∧ D.changes.length = 0) ∨ ∃ g c, A.wv = .slice (some ⟨g, 0, none⟩) D.changes.length c := by
    rcases h.waiting.cells with h2 | ⟨g, cap, hv, _⟩
    · exact .inl h2
    · exact .inr ⟨g, cap, hv⟩
  have HP := Lib.hid hp
  have H := Lib.hid h
  have HIi := Lib.hid hi
  have HLen := Lib.hid hlen
  clear hp hi h hlen hsum
  unfold dptr
  go_enter Tryz.func39, Tryz.ntmps39
  go_wp2_with (first | (at_range; refine wpl_range _ rfl _ rfl Tryz.underlying99 rfl hks ?_; intro W1 hi1 hg1 hs1))
  have I1 : WaitInv w W1 D A A.nm w.heap.size ks ks [] := ⟨(Frm.refl _ _).grown hg1 (by simp), hi1, by simp⟩
  have HI := Lib.hid I1
  clear I1 hi1 hg1 hs1 hks
  go_frame
  go_loopw [4] (fun v wr => ∃ tk dk, v = .int .i64 (((dk.map (wl D)).sum : Nat) : Int) ∧ WaitInv w wr D A A.nm w.heap.size ks tk dk) (fun _ wr => leftIn wr w.heap.size A.nm)
  case atStart => exact ⟨ks, [], rfl, HI.out⟩
  case round =>
    obtain ⟨tk, dk, rfl, I⟩ := hrel
    have II := Lib.hid I
    have hI := I.iter
    have hleft := I.iter.left
    have hsz : w.heap.size < wr.heap.size := by
      obtain ⟨es, cl, sn, _, hh, _⟩ := I.iter
      exact Da.blk_lt hh
    clear I
    by_cases h0 : tk = []
    · subst h0
      have hpk : dk.Perm ks := by simpa using II.out.perm
      have hsN := hsumN.out dk hpk
      have x2 : wr.cell? ⟨b, 2, none⟩ = some A.wv := (II.out.frm.cell blt id).trans (main_cell H.out.blk rfl)
      rw [hsN]
      clear hsN
      rcases hwv with ⟨e1, e2⟩ | ⟨g, c, e1⟩
      · rw [e1] at x2
        have E2 := Lib.hid e2
        clear e2
        go_wp2_with (first | (at_next; refine wpl_next _ rfl _ rfl rfl hI (fun h0 => ?_) (fun y vv todo' w1 hp hi1 hg1 hs1 hen => absurd hp.length_eq (by simp [nent]))))
        go_quiet (fail)
        go_wp2
        go_ret2
        exact ⟨by rw [E2.out]; rfl, II.out.frm.drewN _⟩
      · rw [e1] at x2
        go_wp2_with (first | (at_next; refine wpl_next _ rfl _ rfl rfl hI (fun h0 => ?_) (fun y vv todo' w1 hp hi1 hg1 hs1 hen => absurd hp.length_eq (by simp [nent]))))
        go_quiet (fail)
        go_wp2
        go_ret2
        exact ⟨rfl, II.out.frm.drewN _⟩
    · have hdl : dk.length ≤ D.files.length := by have := II.out.perm.length_eq; simp at this; omega
      have hsb := hbd.out dk (fun p hp => (II.out.perm.mem_iff).1 (List.mem_append_right _ hp)) hdl
      have hfw : Hid (∀ pp tk' w1, tk.Perm (pp :: tk') → wr.grownBy w1 (some w.heap.size) → ∃ wb ms, w1.cell? ⟨(A.fa pp.2).fb, 5, none⟩ = some (.map (some wb)) ∧ MapAt (Value.int .i64) w1 wb ms ∧ ms.length = wl D pp ∧ wl D pp ≤ 8589934592) := by
        intro pp tk' w1 hp' hg1
        have hmk : pp ∈ ks := II.out.perm.mem_iff.1 (List.mem_append_left _ (hp'.mem_iff.2 List.mem_cons_self))
        have hmn : pp ∈ D.now := HP.out.mem_iff.1 hmk
        have hid := HIi.out.now.lt _ hmn
        obtain ⟨f, hf⟩ : ∃ f, D.files[pp.2]? = some f := ⟨_, List.getElem?_eq_getElem hid⟩
        have hDf : D.file pp.2 = f := by unfold Disk.file; rw [hf]; rfl
        have f1 : Frm (fun _ => False) w w1 := II.out.frm.grown hg1 (fun k e hk => by have := Option.some.inj e; omega)
        have FW : FileAt w1 lab pp.2 (A.fa pp.2) f := (H.out.files _ f hf).same (fun k p hl _ => f1.block k (H.out.base k p hl).2 id)
        obtain ⟨kws, hkm, hkl⟩ := set_len FW.waits (HIi.out.files f (List.mem_of_getElem? hf)).wlt
        refine ⟨_, _, cell_of FW.blk rfl, hkm, ?_, Nat.le_trans (wl_le HLen.out) (by omega)⟩
        unfold wl
        rw [hDf]
        have : (numbers f.waits (sectors f.seen.length)).length = (waitList f).length := by unfold numbers waitList; simp
        rw [← this, ← hkl]; simp [ent]
      go_wp2_with (first
        | (at_next; refine wpl_next _ rfl _ rfl rfl hI (fun h0x => absurd (List.map_eq_nil_iff.1 h0x) h0) (fun y vv todo' w1 hp hi1 hg1 hs1 hen => ?_); obtain ⟨pp, tk', hpe, rfl, hp'⟩ := perm_map_cons _ hp; obtain ⟨hpe1, hpe2⟩ := Prod.mk.inj hpe; subst hpe1; subst hpe2; simp only [fptr] at hen ⊢; obtain ⟨wb, mm, hwc, hmm1, hml, hwlb⟩ := hfw.out pp tk' w1 hp' hg1; have HML := Lib.hid hml; have HP' := Lib.hid hp'; clear hp hp' hpe hml)
        | (refine wpl_len _ rfl (.tmp 22) rfl Tryz.underlying140 rfl hmm1 ?_; rw [HML.out]))
      go_roundw
      case rel =>
        refine ⟨tk', dk ++ [pp], ?_, ⟨II.out.frm.grown hg1 (fun k e hk => by have := Option.some.inj e; omega), hi1, ?_⟩⟩
        · rw [List.map_append, List.sum_append]; simp
        · refine List.Perm.trans ?_ II.out.perm
          refine List.Perm.trans ?_ (HP'.out.symm.append_right dk)
          rw [← List.append_assoc]
          exact List.perm_append_singleton pp (tk' ++ dk)
      case measure =>
        rw [hi1.left, hleft]
        have := HP'.out.length_eq
        simp [nent] at this ⊢
        omega
end Go.Proofs.YtkmmlfphcfcbgaaGreatDoor.Dw

/- Walks: Read. -/
namespace Go.Proofs.YtkmmlfphcfcbgaaGreatDoor.Dw
open Go.RowKit Go.ChangeMaps Go.Proofs.YtkmmlfphcfcbgaaGreatDoor.Mp Go.Proofs.YtkmmlfphcfcbgaaGreatDoor.Dm Go.Proofs.YtkmmlfphcfcbgaaGreatDoor.Da
open Go.Proofs.YtkmmlfphcfcbgaaGreatDoorW.PrintWords (Kd)
set_option linter.unusedVariables false
set_option linter.unusedSimpArgs false
set_option linter.unusedSectionVars false
set_option maxHeartbeats 1000000 in
set_option maxRecDepth 100000 in
theorem read_calls {B : Nat} {w : World} {b : Nat} {A : Adr} {lab : Nat → Option Lb} {D : Disk} {eb : Nat → Addr} {L : List Err} (h : DiskAt B w b A lab D) (he : ErrsAt B w eb L) (hi : Inv D) (hlen : ∀ f, f ∈ D.files → f.seen.length ≤ 4398046511104) (n : Name) :
    Calls Tryz.prog 38 #[dptr b, .string n] w fun e w' => ∃ dv bv, e = .returned (.tuple #[dv, bv, errV eb (D.read n).1]) ∧ w'.ownsRow w.heap.size 5 1 dv (D.read n).2.1.length (u8s (D.read n).2.1) ∧ w'.ownsRow w.heap.size 3 1 bv (D.read n).2.2.length (i64s (D.read n).2.2) ∧ Frm (fun _ => False) w w' := by
  have nilrow : ∀ (W : World) (e : TypeId), W.ownsRow w.heap.size e 1 (.slice none 0 0) ([] : List Int).length [] := fun W e => ⟨by simp, .inl ⟨rfl, rfl⟩⟩
  have c8 : w.cell? ⟨b, 8, none⟩ = some (.bool D.off) := main_cell h.blk rfl
  cases hoff : D.off with
  | true =>
    have hr : D.read n = (eDown, [], []) := by unfold Disk.read; rw [if_pos hoff]
    rw [hr, errV_pos eb eDown (by decide)]
    rw [hoff] at c8
    have cd := he.down
    clear hr hoff h he hi hlen
    unfold dptr
    go_enter Tryz.func38, Tryz.ntmps38
    go_wp2
    go_quiet (fail)
    go_wp2
    go_ret3
    exact ⟨_, _, rfl, nilrow _ _, nilrow _ _, (by repeat (first | (with_reducible assumption) | (with_reducible exact Frm.refl _ _) | (with_reducible apply Frm.drewN) | (with_reducible apply Frm.drew) | (with_reducible apply Frm.alloc) | (with_reducible refine Frm.setCell ?_ _ _ (fun h => absurd h (by first | (simp; done) | (simp; omega))))))⟩
  | false =>
    have c0 : w.cell? ⟨b, 0, none⟩ = some (.map (some A.nm)) := main_cell h.blk rfl
    rw [hoff] at c8
    obtain ⟨l', hp, hm⟩ := h.names
    have hl := look_names hp hi.now.names A n
    cases hf : find D.now n with
    | none =>
      have hr : D.read n = (eGone, [], []) := by unfold Disk.read; rw [if_neg (by rw [hoff]; simp), hf]
      rw [hr, errV_pos eb eGone (by decide)]
      rw [hf] at hl
      have E1 : Hid ((mlook (l'.map fun p => (p.1, fptr A p.2)) n).getD (.pointer none) = .pointer none) := by rw [hl]; rfl
      have cg := he.gone
      clear hr hoff h he hi hlen hl hf hp
      unfold dptr
      go_enter Tryz.func38, Tryz.ntmps38
      go_wp2_with (first | (at_lookup; refine wpl_lookup _ rfl _ _ _ rfl kS Tryz.underlying99 (zP _) n rfl rfl hm ?_; rw [if_neg (by simp), E1.out]))
      go_quiet (fail)
      go_wp2
      go_ret3
      exact ⟨_, _, rfl, nilrow _ _, nilrow _ _, (by repeat (first | (with_reducible assumption) | (with_reducible exact Frm.refl _ _) | (with_reducible apply Frm.drewN) | (with_reducible apply Frm.drew) | (with_reducible apply Frm.alloc) | (with_reducible refine Frm.setCell ?_ _ _ (fun h => absurd h (by first | (simp; done) | (simp; omega))))))⟩
    | some i =>
      have hr : D.read n = (0, (D.file i).seen, numbers (D.file i).badSeen (sectors (D.file i).seen.length)) := by unfold Disk.read; rw [if_neg (by rw [hoff]; simp), hf]
      rw [hr, errV_zero]
      rw [hf] at hl
      have E1 : Hid ((mlook (l'.map fun p => (p.1, fptr A p.2)) n).getD (.pointer none) = .pointer (some ⟨(A.fa i).fb, 0, none⟩)) := by rw [hl]; rfl
      have hid := hi.now.lt _ ((find_iff hi.now.names n i).1 hf)
      simp only at hid
      obtain ⟨f, hff⟩ : ∃ f, D.files[i]? = some f := ⟨_, List.getElem?_eq_getElem hid⟩
      have hDf : D.file i = f := by unfold Disk.file; rw [hff]; rfl
      rw [hDf]
      have F := h.files i f hff
      have hok := hi.files f (List.mem_of_getElem? hff)
      have hfl := hlen f (List.mem_of_getElem? hff)
      have x1 : w.cell? ⟨(A.fa i).fb, 1, none⟩ = some (A.fa i).sd := cell_of F.blk rfl
      have x2 : w.cell? ⟨(A.fa i).fb, 2, none⟩ = some (.map (some (A.fa i).sb)) := cell_of F.blk rfl
      have KEYP := Lib.hid (plain_calls (w := w) n (A.fa i).sd f.seen (A.fa i).sb f.badSeen (RowAt.bytes F.seen) F.badSeen hok.bseen hfl)
      obtain ⟨pd, nd, cd, hsd⟩ : ∃ p n c, (A.fa i).sd = .slice p n c := by
        rcases F.seen.row.2 with ⟨h1, _⟩ | ⟨g, cap, cur, hv, _⟩
        · exact ⟨_, _, _, h1⟩
        · exact ⟨_, _, _, hv⟩
      rw [hsd] at x1 KEYP
      clear hr hoff h he hi hlen hl hf hp hid hff hDf F hok hfl hsd
      unfold dptr
      go_enter Tryz.func38, Tryz.ntmps38
      go_wp2_with (first
        | (at_lookup; refine wpl_lookup _ rfl _ _ _ rfl kS Tryz.underlying99 (zP _) n rfl rfl hm ?_; rw [if_neg (by simp), E1.out])
        | (go_at_call 91; (with_reducible refine KEYP.out.mono ?_); rintro e w1 ⟨dv, bv, rfl, hd, hb, hf⟩; obtain ⟨p1, c1, rfl⟩ := own_form hd; obtain ⟨p2, c2, rfl⟩ := own_form hb; have HR := Lib.hid (And.intro hd (And.intro hb hf)); clear hd hb hf))
      go_quiet (fail)
      go_wp2
      go_ret3
      have hfr := HR.out.2.2
      exact ⟨_, _, rfl, own_frm HR.out.1 (by repeat (first | exact Frm.refl _ _ | apply Frm.drewN | apply Frm.drew | apply Frm.alloc)), own_frm HR.out.2.1 (by repeat (first | exact Frm.refl _ _ | apply Frm.drewN | apply Frm.drew | apply Frm.alloc)), (by repeat (first | (with_reducible assumption) | (with_reducible exact Frm.refl _ _) | (with_reducible apply Frm.drewN) | (with_reducible apply Frm.drew) | (with_reducible apply Frm.alloc) | (with_reducible refine Frm.setCell ?_ _ _ (fun h => absurd h (by first | (simp; done) | (simp; omega))))))⟩
end Go.Proofs.YtkmmlfphcfcbgaaGreatDoor.Dw

/- An operation in one: how run answers, whatever befalls it. -/
namespace Go.Proofs.YtkmmlfphcfcbgaaGreatDoor.Dw
open Go.RowKit Go.ChangeMaps Go.Proofs.YtkmmlfphcfcbgaaGreatDoor.Mp Go.Proofs.YtkmmlfphcfcbgaaGreatDoor.Dm Go.Proofs.YtkmmlfphcfcbgaaGreatDoor.Da
set_option linter.unusedVariables false
set_option linter.unusedSimpArgs false
set_option linter.unusedSectionVars false
theorem run_calls {B : Nat} {w : World} {b : Nat} {A : Adr} {lab : Nat → Option Lb} {D : Disk} {eb : Nat → Addr} {L : List Err} (h : DiskAt B w b A lab D) (he : ErrsAt B w eb L)
    (hc : D.count < 4611686018427387904) (hs : D.since < 4611686018427387904)
    (pf : FuncId) (caps : Array Value) (hpf : Callable pf caps) (ref : Err) (wt : Bool) (df : FuncId) (dcaps : Array Value) (hdf : Callable df dcaps) (pv : Value) (act : Disk → Disk) (part : Option (Int → Disk → Disk))
    (hplan : ∀ W, Ext B b lab w W D.tick → Calls Tryz.prog pf caps W fun e W' => e = .returned (.agg #[errV eb ref, .func (.func df) #[] dcaps, .bool wt, pv]) ∧ Ext B b lab w W' D.tick)
    (hdo : ref = 0 → ∀ W D1, D1 = D.tick ∨ (wt = true ∧ D1 = D.tick.dark) → Ext B b lab w W D1 → Calls Tryz.prog df dcaps W fun e W' => e = .returned (.tuple #[]) ∧ Ext B b lab w W' (act D1))
    (hpv : (pv = .nilFunc ∧ part = none) ∨ ∃ qf qcaps p, pv = .func (.func qf) #[] qcaps ∧ part = some p ∧ (∀ n : Int, Callable qf (#[.int .i64 n] ++ qcaps)) ∧
      (ref = 0 → ∀ (n : Int) W, Ext B b lab w W D.tick → Calls Tryz.prog qf (#[.int .i64 n] ++ qcaps) W fun e W' => e = .returned (.tuple #[]) ∧ Ext B b lab w W' (p n D.tick))) :
    Calls Tryz.prog 70 #[dptr b, .func (.func pf) #[] caps] w fun e W' => e = .returned (errV eb (D.run ref act wt part).1) ∧ Ext B b lab w W' (D.run ref act wt part).2 := by
  have hpv1 : pv = .nilFunc ∨ ∃ qf qcaps, pv = .func (.func qf) #[] qcaps := by
    rcases hpv with ⟨h1, _⟩ | ⟨qf, qc, p, h1, _⟩
    · exact .inl h1
    · exact .inr ⟨qf, qc, h1⟩
  cases hoff : D.off with
  | true =>
    have e1 : D.run ref act wt part = (eDown, D) := by unfold Disk.run; rw [if_pos hoff]
    rw [e1]
    refine (run_off h he hoff _).mono ?_
    rintro e w' ⟨rfl, rfl⟩
    exact ⟨rfl, Ext.refl h⟩
  | false =>
    have hne : ¬ (D.off = true) := by rw [hoff]; simp
    cases harm : D.tick.armed with
    | cut =>
      have e1 : D.run ref act wt part = (eDown, if ref = 0 ∧ wt = true then act D.tick.dark else D.tick.dark) := by unfold Disk.run; rw [if_neg hne, harm]
      rw [e1]
      exact run_cut h he hoff hc hs harm pf caps hpf ref wt df dcaps hdf pv hpv1 act hplan (fun h0 hwt W D1 h1 hx => hdo h0 W D1 (.inr ⟨hwt, h1⟩) hx)
    | fails n =>
      have e1 : D.run ref act wt part = (eIo, failTo ref n part D.tick) := by unfold Disk.run; rw [if_neg hne, harm]
      rw [e1]
      refine run_fails h he hoff hc hs n harm pf caps hpf ref wt df dcaps hdf pv part ?_ hplan
      rcases hpv with h1 | ⟨qf, qc, p, h1, h2, h3, h4⟩
      · exact .inl h1
      · exact .inr ⟨qf, qc, p, h1, h2, h3 n, fun h0 W hx => h4 h0 n W hx⟩
    | goes =>
      have e1 : D.run ref act wt part = (if ref = 0 then (0, act D.tick) else (ref, D.tick)) := by unfold Disk.run; rw [if_neg hne, harm]
      have e2 : (D.run ref act wt part).1 = ref := by rw [e1]; split <;> simp_all
      have e3 : (D.run ref act wt part).2 = if ref = 0 then act D.tick else D.tick := by rw [e1]; split <;> rfl
      rw [e2, e3]
      exact run_goes h he hoff hc hs harm pf caps hpf ref wt df dcaps hdf pv hpv1 act hplan (fun h0 W D1 h1 hx => hdo h0 W D1 (.inl h1) hx)
end Go.Proofs.YtkmmlfphcfcbgaaGreatDoor.Dw

/- Walks: Create's plan, and Create. -/
namespace Go.Proofs.YtkmmlfphcfcbgaaGreatDoor.Dw
open Go.RowKit Go.ChangeMaps Go.Proofs.YtkmmlfphcfcbgaaGreatDoor.Mp Go.Proofs.YtkmmlfphcfcbgaaGreatDoor.Dm Go.Proofs.YtkmmlfphcfcbgaaGreatDoor.Da
set_option linter.unusedVariables false
set_option linter.unusedSimpArgs false
set_option linter.unusedSectionVars false
theorem ne2 {s x : Nat} (h : x < s) : x < s ∧ x < s + 1 ∧ x < s + 1 + 1 := ⟨by omega, by omega, by omega⟩
set_option maxHeartbeats 1000000 in
set_option maxRecDepth 100000 in
theorem create1 {B : Nat} {W : World} {b : Nat} {A : Adr} {lab : Nat → Option Lb} {D : Disk} {eb : Nat → Addr} {L : List Err} (h : DiskAt B W b A lab D) (he : ErrsAt B W eb L) (hw : WF D) (n : Name) (hn : n.size ≤ 9223372036854775807) (cd cn : Nat)
    (h1 : W.cell? ⟨cd, 0, none⟩ = some (dptr b)) (h2 : W.cell? ⟨cn, 0, none⟩ = some (.string n)) :
    Calls Tryz.prog 71 #[.pointer (some ⟨cd, 0, none⟩), .pointer (some ⟨cn, 0, none⟩)] W fun e W' =>
      e = .returned (.agg #[errV eb (D.refuseCreate n), .func (.func 72) #[] #[.pointer (some ⟨cd, 0, none⟩), .pointer (some ⟨cn, 0, none⟩)], .bool true, .nilFunc]) ∧ Frm (fun _ => False) W W' := by
  have c0 : W.cell? ⟨b, 0, none⟩ = some (.map (some A.nm)) := main_cell h.blk rfl
  have ca := he.arg
  have ct := he.there
  obtain ⟨n10, n11, n12⟩ := ne2 (World.block_lt_of_cell? W _ h1)
  obtain ⟨n20, n21, n22⟩ := ne2 (World.block_lt_of_cell? W _ h2)
  obtain ⟨n30, n31, n32⟩ := ne2 (World.block_lt_of_cell? W _ c0)
  obtain ⟨n40, n41, n42⟩ := ne2 (World.block_lt_of_cell? W _ ca)
  obtain ⟨n50, n51, n52⟩ := ne2 (World.block_lt_of_cell? W _ ct)
  unfold dptr at h1
  obtain ⟨l', hp, hm⟩ := h.names
  have hl := look_names hp hw.nowN A n
  by_cases hg : good n = false
  · have hr : D.refuseCreate n = eArg := by simp [Disk.refuseCreate, hg]
    rw [hr, errV_pos eb eArg (by decide)]
    clear hr hl hp hm
    go_enter Tryz.func71, Tryz.ntmps71
    go_wp2_with (first | (go_at_call 74; refine (goodName_calls n _ hn).mono ?_; rw [hg]; rintro e w' ⟨rfl, rfl⟩))
    exact bodyPost_ret (v := .agg #[.iface 311 (.pointer (some (eb 1))), .func (.func 72) #[] #[.pointer (some ⟨cd, 0, none⟩), .pointer (some ⟨cn, 0, none⟩)], .bool true, .nilFunc]) (by simp [results, Tryz.results71, go_sem]) rfl ⟨rfl, (by repeat (first | (with_reducible assumption) | (with_reducible exact Frm.refl _ _) | (with_reducible apply Frm.drewN) | (with_reducible apply Frm.drew) | (with_reducible apply Frm.alloc) | (with_reducible refine Frm.setCell ?_ _ _ (fun h => absurd h (by first | (simp; done) | (simp; omega))))))⟩
  · have hg' : good n = true := by simpa using hg
    have lk : ∀ (o1 o2 : Obj) nq, (Instr.lookup 99 (.map (some A.nm)) (.string n) false).run Tryz.prog (((W.alloc o1).alloc o2).drewN nq) = .ok (((find D.now n).map (fptr A)).getD (.pointer none)) (((W.alloc o1).alloc o2).drewN nq) := by
      intro o1 o2 nq
      have hlt := hm.lt
      have hm' : MapAt Value.string (((W.alloc o1).alloc o2).drewN nq) A.nm (l'.map fun p => (p.1, fptr A p.2)) := hm.of_block (by
        show ((W.alloc o1).alloc o2).heap[A.nm]? = _
        rw [blk_alloc_lt (by simp only [World.size_alloc]; omega), blk_alloc_lt hlt])
      have := hm'.lookup kS Tryz.underlying99 (zP _) n false
      rw [this, hl]; rfl
    cases hf : find D.now n with
    | none =>
      have hr : D.refuseCreate n = 0 := by simp [Disk.refuseCreate, hg', hf]
      rw [hr, errV_zero]
      rw [hf] at lk
      have lk' : ∀ (o1 o2 : Obj) nq, (Instr.lookup 99 (.map (some A.nm)) (.string n) false).run Tryz.prog (((W.alloc o1).alloc o2).drewN nq) = .ok (.pointer none) (((W.alloc o1).alloc o2).drewN nq) := lk
      clear hr hl hp hm hg lk hf
      go_enter Tryz.func71, Tryz.ntmps71
      go_wp2_with (first | (go_at_call 74; refine (goodName_calls n _ hn).mono ?_; rw [hg']; rintro e w' ⟨rfl, rfl⟩))
      go_quiet (fail)
      go_wp2
      exact bodyPost_ret (v := .agg #[.nilIface, .func (.func 72) #[] #[.pointer (some ⟨cd, 0, none⟩), .pointer (some ⟨cn, 0, none⟩)], .bool true, .nilFunc]) (by simp [results, Tryz.results71, go_sem]) rfl ⟨rfl, (by repeat (first | (with_reducible assumption) | (with_reducible exact Frm.refl _ _) | (with_reducible apply Frm.drewN) | (with_reducible apply Frm.drew) | (with_reducible apply Frm.alloc) | (with_reducible refine Frm.setCell ?_ _ _ (fun h => absurd h (by first | (simp; done) | (simp; omega))))))⟩
    | some i =>
      have hr : D.refuseCreate n = eThere := by simp [Disk.refuseCreate, hg', hf]
      rw [hr, errV_pos eb eThere (by decide)]
      rw [hf] at lk
      have lk' : ∀ (o1 o2 : Obj) nq, (Instr.lookup 99 (.map (some A.nm)) (.string n) false).run Tryz.prog (((W.alloc o1).alloc o2).drewN nq) = .ok (.pointer (some ⟨(A.fa i).fb, 0, none⟩)) (((W.alloc o1).alloc o2).drewN nq) := lk
      clear hr hl hp hm hg lk hf
      go_enter Tryz.func71, Tryz.ntmps71
      go_wp2_with (first | (go_at_call 74; refine (goodName_calls n _ hn).mono ?_; rw [hg']; rintro e w' ⟨rfl, rfl⟩))
      go_quiet (fail)
      go_wp2
      exact bodyPost_ret (v := .agg #[.iface 311 (.pointer (some (eb 9))), .func (.func 72) #[] #[.pointer (some ⟨cd, 0, none⟩), .pointer (some ⟨cn, 0, none⟩)], .bool true, .nilFunc]) (by simp [results, Tryz.results71, go_sem]) rfl ⟨rfl, (by repeat (first | (with_reducible assumption) | (with_reducible exact Frm.refl _ _) | (with_reducible apply Frm.drewN) | (with_reducible apply Frm.drew) | (with_reducible apply Frm.alloc) | (with_reducible refine Frm.setCell ?_ _ _ (fun h => absurd h (by first | (simp; done) | (simp; omega))))))⟩
end Go.Proofs.YtkmmlfphcfcbgaaGreatDoor.Dw

/- The operation Create, whole. -/
namespace Go.Proofs.YtkmmlfphcfcbgaaGreatDoor.Dw
open Go.RowKit Go.ChangeMaps Go.Proofs.YtkmmlfphcfcbgaaGreatDoor.Mp Go.Proofs.YtkmmlfphcfcbgaaGreatDoor.Dm Go.Proofs.YtkmmlfphcfcbgaaGreatDoor.Da
set_option linter.unusedVariables false
set_option linter.unusedSimpArgs false
set_option linter.unusedSectionVars false
theorem callCreate1 (a : Array Value) : Callable 71 a := fun W => by kernel_rfl
theorem callCreate11 (a : Array Value) : Callable 72 a := fun W => by kernel_rfl
/-- A captured variable stays, and is none of the disk's. -/
theorem Cap.ext {B b : Nat} {lab lab1 : Nat → Option Lb} {w w1 : World} {c : Nat} {v : Value} (h : Cap w lab c v) (hf : Frm (Ft lab) w w1) (hl : ∀ k, k < w.heap.size → Ft lab1 k → Ft lab k) : Cap w1 lab1 c v := by
  refine ⟨h.frm hf, ?_⟩
  rcases hc : lab1 c with _ | p
  · rfl
  · have := hl c h.lt (by unfold Ft; rw [hc]; rfl)
    unfold Ft at this
    rw [h.2] at this
    cases this
theorem Ft.low {B : Nat} {w : World} {b : Nat} {A : Adr} {lab : Nat → Option Lb} {D : Disk} (h : DiskAt B w b A lab D) : ∀ k, Ft lab k → B ≤ k := fun k hk => by
  obtain ⟨p, hp⟩ := Option.isSome_iff_exists.1 hk; exact (h.base k p hp).1
/-- The bounds that the calls' counters stay below. -/
structure Bnd (D : Disk) : Prop where
  files : D.files.length < 4611686018427387904
  changes : D.changes.length < 1099511627776
  count : D.count < 4611686018427387904
  since : D.since < 4611686018427387904
  len : ∀ f, f ∈ D.files → f.seen.length ≤ 4398046511104
theorem gone_zero {D : Disk} {n : Name} (h : D.gone n = 0) : (find D.now n).isSome = true := by
  unfold Disk.gone at h
  split at h
  · assumption
  · cases h
set_option maxHeartbeats 1000000 in
set_option maxRecDepth 100000 in
theorem create_calls {B : Nat} {w : World} {b : Nat} {A : Adr} {lab : Nat → Option Lb} {D : Disk} {eb : Nat → Addr} {L : List Err} (h : DiskAt B w b A lab D) (he : ErrsAt B w eb L) (hw : WF D) (hb : Bnd D) (n : Name) (hn : n.size ≤ 9223372036854775807) :
    Calls Tryz.prog 29 #[dptr b, .string n] w fun e W' => e = .returned (errV eb (D.create n).1) ∧ Ext B b lab w W' (D.create n).2 := by
  have hlt : ∀ k p, lab k = some p → k < w.heap.size := fun k p hl => (h.base k p hl).2
  have l0 : lab w.heap.size = none := by
    rcases hc : lab w.heap.size with _ | p
    · rfl
    · have := hlt _ p hc; omega
  have l1 : lab (w.heap.size + 1) = none := by
    rcases hc : lab (w.heap.size + 1) with _ | p
    · rfl
    · have := hlt _ p hc; omega
  have key : ∀ W0, W0 = (w.alloc (.cells #[dptr b] 29)).alloc (.cells #[.string n] 9) →
      Calls Tryz.prog 70 #[dptr b, .func (.func 71) #[] #[.pointer (some ⟨w.heap.size, 0, none⟩), .pointer (some ⟨w.heap.size + 1, 0, none⟩)]] W0 fun e W' => e = .returned (errV eb (D.create n).1) ∧ Ext B b lab w W' (D.create n).2 := by
    intro W0 hW0
    have h0 : DiskAt B W0 b A lab D := by rw [hW0]; exact (h.alloc _).alloc _
    have he0 : ErrsAt B W0 eb L := by rw [hW0]; exact (he.alloc _).alloc _
    have f0 : Frm (Ft lab) w W0 := by rw [hW0]; exact ((Frm.refl _ _).alloc _).alloc _
    have cd0 : Cap W0 lab w.heap.size (dptr b) := ⟨by rw [hW0]; exact cell_alloc (cell_of blk_alloc rfl), l0⟩
    have cn0 : Cap W0 lab (w.heap.size + 1) (.string n) := ⟨by
      rw [hW0]
      have := cell_of (i := 0) (blk_alloc (w := w.alloc (.cells #[dptr b] 29)) (o := .cells #[.string n] 9)) rfl
      rw [show (w.alloc (.cells #[dptr b] 29)).heap.size = w.heap.size + 1 by simp only [World.size_alloc]] at this
      exact this, l1⟩
    have run := run_calls h0 he0 hb.count hb.since 71 #[.pointer (some ⟨w.heap.size, 0, none⟩), .pointer (some ⟨w.heap.size + 1, 0, none⟩)] (callCreate1 _) (D.refuseCreate n) true 72
      #[.pointer (some ⟨w.heap.size, 0, none⟩), .pointer (some ⟨w.heap.size + 1, 0, none⟩)] (callCreate11 _) .nilFunc (Disk.doCreate n) none
      (by
        intro W hx
        obtain ⟨A1, lab1, g1, g2, g3⟩ := hx
        refine (create1 g1 (he0.frm g2 (Ft.low h0)) hw.tick n hn _ _ (cd0.frm g2) (cn0.frm g2)).mono ?_
        rintro e W' ⟨rfl, hf⟩
        exact ⟨rfl, Ext.keep ⟨A1, lab1, g1, g2, g3⟩ hf (fun _ _ h => h)⟩)
      (by
        intro h00 W D1 hD1 hx
        obtain ⟨A1, lab1, g1, g2, g3⟩ := hx
        have hw1 : WF D1 := by
          rcases hD1 with rfl | ⟨_, rfl⟩
          · exact hw.tick
          · exact hw.tick.dark
        have hb1 : D1.files.length < 4611686018427387904 ∧ D1.changes.length < 1099511627776 := by rcases hD1 with rfl | ⟨_, rfl⟩ <;> exact ⟨hb.files, hb.changes⟩
        refine (create11 g1 hw1 n _ _ (cd0.ext (B := B) (b := b) g2 g3) (cn0.ext (B := B) (b := b) g2 g3) hb1.1 hb1.2).mono ?_
        rintro e W' ⟨rfl, hx⟩
        exact ⟨rfl, Ext.trans g2 g3 hx⟩)
      (.inl ⟨rfl, rfl⟩)
    refine run.mono ?_
    rintro e W' ⟨rfl, hx⟩
    exact ⟨rfl, Ext.trans f0 (fun _ _ h => h) hx⟩
  unfold dptr at key ⊢
  have KEY := Lib.hid key
  clear key l0 l1
  go_enter Tryz.func29, Tryz.ntmps29
  go_wp2_with fail
  refine (KEY.out _ rfl).mono ?_
  rintro e W' ⟨rfl, hx⟩
  generalize hev : errV eb (D.create n).1 = ev
  go_wp2
  go_ret
  rw [hev]
  exact ⟨rfl, hx⟩
end Go.Proofs.YtkmmlfphcfcbgaaGreatDoor.Dw

/- Walks: Remove's closures. -/
namespace Go.Proofs.YtkmmlfphcfcbgaaGreatDoor.Dw
open Go.RowKit Go.ChangeMaps Go.Proofs.YtkmmlfphcfcbgaaGreatDoor.Mp Go.Proofs.YtkmmlfphcfcbgaaGreatDoor.Dm Go.Proofs.YtkmmlfphcfcbgaaGreatDoor.Da
set_option linter.unusedVariables false
set_option linter.unusedSimpArgs false
set_option linter.unusedSectionVars false
end Go.Proofs.YtkmmlfphcfcbgaaGreatDoor.Dw

/- Remove, whole (printed by wip/tools/wrap.py). -/
namespace Go.Proofs.YtkmmlfphcfcbgaaGreatDoor.Dw
open Go.RowKit Go.ChangeMaps Go.Proofs.YtkmmlfphcfcbgaaGreatDoor.Mp Go.Proofs.YtkmmlfphcfcbgaaGreatDoor.Dm Go.Proofs.YtkmmlfphcfcbgaaGreatDoor.Da
set_option linter.unusedVariables false
set_option linter.unusedSimpArgs false
set_option linter.unusedSectionVars false
end Go.Proofs.YtkmmlfphcfcbgaaGreatDoor.Dw
