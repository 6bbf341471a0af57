/- A part of the proof of diskDown_holds: Fd. No condition. -/
import Derived.Test.YtglhedahannjiaaGreatDoorC18

/- Walks: Load. -/
namespace Go.Proofs.YtglhedahannjiaaGreatDoor.Dw
open Go.RowKit Go.ChangeMaps Go.Proofs.YtglhedahannjiaaGreatDoor.Mp Go.Proofs.YtglhedahannjiaaGreatDoor.Dm Go.Proofs.YtglhedahannjiaaGreatDoor.Da
open Go.Proofs.YtglhedahannjiaaGreatDoorW.PrintWords (Kd add_field)
set_option linter.unusedVariables false
set_option linter.unusedSimpArgs false
set_option linter.unusedSectionVars false
/-- One file of an image that is read, cell by cell. -/
theorem img_cells {w : World} {Ap : Option Addr} {l : List Plain} (hC : fileK.C w Ap l.length l) {j : Nat} {p : Plain} (hp : l[j]? = some p) :
    ∃ ad A1 c1 A2 c2, Ap = some ad ∧ w.cell? (ad.add (j * 3)) = some (.string p.name) ∧ w.cell? ⟨(ad.add (j * 3)).block, (ad.add (j * 3)).off + 1, none⟩ = some (.slice A1 p.data.length c1) ∧
      w.cell? ⟨(ad.add (j * 3)).block, (ad.add (j * 3)).off + 2, none⟩ = some (.slice A2 p.bad.length c2) ∧ BytesAt w (.slice A1 p.data.length c1) p.data ∧ (∀ j (h : j < p.bad.length), ∃ a, A2 = some a ∧ w.cell? (a.add j) = some (.int .i64 p.bad[j])) ∧ p.bad.length ≤ c2 ∧ p.bad.length ≤ 9223372036854775807 := by
  have hj := (List.getElem?_eq_some_iff.1 hp).1
  obtain ⟨ad, rfl, h⟩ := hC.2.2 (by omega)
  obtain ⟨c, hc, hK, hcell⟩ := h j p hp
  obtain ⟨e0, c2, rfl, h0, ⟨e1, e2, rfl, hd, hb⟩⟩ := hK
  obtain ⟨A1, c1, rfl, hl1, hd⟩ := hd
  obtain ⟨A2, c2, rfl, hl2, hb⟩ := hb
  have h0 : e0 = [.string p.name] := h0
  subst h0
  have k0 := hcell 0 _ rfl
  have k1 := hcell 1 _ rfl
  have k2 := hcell 2 _ rfl
  have hz : fileK.sz = 3 := rfl
  rw [hz] at k0 k1 k2
  rw [add_field _ _ _ (by omega)] at k1 k2
  refine ⟨ad, A1, c1, A2, c2, rfl, k0, k1, k2, ⟨A1, c1, rfl, fun j u hu => ?_⟩, fun j hj => ?_, hl2, hb.2.1⟩
  · have hjl : j < p.data.length := by have := (List.getElem?_eq_some_iff.1 hu).1; simpa [u8s] using this
    obtain ⟨a, e, h⟩ := hd.2.2 (show 0 < p.data.length by omega)
    obtain ⟨c, _, hk, hc⟩ := h j p.data[j] (List.getElem?_eq_getElem hjl)
    have hk : c = [.int .u8 p.data[j]] := hk
    subst hk
    refine ⟨a, e, ?_⟩
    have := hc 0 _ rfl
    have e3 : j * (Kd.int .u8).sz + 0 = j := by show j * 1 + 0 = j; omega
    rw [e3] at this
    rw [this, ← hu]
    simp [u8s, hjl]
  · obtain ⟨a, e, h⟩ := hb.2.2 (show 0 < p.bad.length by omega)
    obtain ⟨c, _, hk, hc⟩ := h j p.bad[j] (List.getElem?_eq_getElem hj)
    have hk : c = [.int .i64 p.bad[j]] := hk
    subst hk
    refine ⟨a, e, ?_⟩
    have := hc 0 _ rfl
    have e3 : j * (Kd.int .i64).sz + 0 = j := by show j * 1 + 0 = j; omega
    rw [e3] at this
    exact this
theorem WF.load {l : List Plain} (h : Dm.Good l) : WF (Disk.load l) := by
  have hn := Ns.load h
  have e : (Disk.load l).files.length = l.length := by simp [Disk.load]
  exact ⟨hn.names, hn.names, fun p hp => by rw [e]; exact hn.lt p hp, fun p hp => by rw [e]; exact hn.lt p hp, fun c hc => by simp [Disk.load, Disk.new] at hc, fun c hc => by simp [Disk.load, Disk.new] at hc⟩
theorem frm_cell {w w' : World} (h : Frm (fun _ => False) w w') {a : Addr} {v : Value} (hc : w.cell? a = some v) : w'.cell? a = some v := by
  rw [← hc]
  exact World.cell?_of_block (h.block _ (World.block_lt_of_cell? w _ hc) id)
theorem BytesAt.frm {w w' : World} {v : Value} {xs : List Int} (h : BytesAt w v xs) (hf : Frm (fun _ => False) w w') : BytesAt w' v xs := by
  obtain ⟨p, c, rfl, h⟩ := h
  refine ⟨p, c, rfl, fun j u hu => ?_⟩
  obtain ⟨a, e, hc⟩ := h j u hu
  exact ⟨a, e, frm_cell hf hc⟩
/-- In Load's loop. -/
structure LoadInv (w wr : World) (bx bb : Nat) (Ap : Option Addr) (n c : Nat) (A : Adr) (lab : Nat → Option Lb) (D : Disk) : Prop where
  frm : Frm (fun _ => False) w wr
  box : wr.heap[bx]? = some (.cells #[.slice Ap n c] 36 (0, 0))
  dsk : DiskAt (bx + 1) wr bb A lab D
theorem LoadInv.step {w wr w2 : World} {bx bb : Nat} {Ap : Option Addr} {n c : Nat} {A A2 : Adr} {lab lab2 : Nat → Option Lb} {D D2 : Disk} (h : LoadInv w wr bx bb Ap n c A lab D) (hb : bx = w.heap.size) (hf : Frm (Ft lab) wr w2) (hd : DiskAt (bx + 1) w2 bb A2 lab2 D2) : LoadInv w w2 bx bb Ap n c A2 lab2 D2 :=
  ⟨h.dsk.high h.frm (by omega) hf, (hf.block bx (Da.blk_lt h.box) (fun hk => by
    obtain ⟨p, hp⟩ := Option.isSome_iff_exists.1 hk
    have := (h.dsk.base _ p hp).1
    omega)).trans h.box, hd⟩
/-- .. in a round: the file's own copy lies at s6. -/
structure MidInv (w wr : World) (bx bb : Nat) (Ap : Option Addr) (n c : Nat) (A : Adr) (lab : Nat → Option Lb) (D : Disk) (s6 : Nat) (o : Obj) : Prop where
  inv : LoadInv w wr bx bb Ap n c A lab D
  fil : wr.heap[s6]? = some o
  lno : lab s6 = none
theorem MidInv.step {w wr w2 : World} {bx bb : Nat} {Ap : Option Addr} {n c : Nat} {A A2 : Adr} {lab lab2 : Nat → Option Lb} {D D2 : Disk} {s6 : Nat} {o : Obj} (h : MidInv w wr bx bb Ap n c A lab D s6 o) (hb : bx = w.heap.size) (hf : Frm (Ft lab) wr w2) (hd : DiskAt (bx + 1) w2 bb A2 lab2 D2) (hl : lab2 s6 = none) : MidInv w w2 bx bb Ap n c A2 lab2 D2 s6 o :=
  ⟨h.inv.step hb hf hd, (hf.block s6 (Da.blk_lt h.fil) (by unfold Ft; rw [h.lno]; simp)).trans h.fil, hl⟩
set_option maxHeartbeats 4000000 in
set_option maxRecDepth 100000 in
theorem load_calls {w : World} {eb : Nat → Addr} {L : List Err} (he : ErrsAt w.heap.size w eb L) (h10 : 10 ∈ L) (l : List Plain) (Ap : Option Addr) (c : Nat) (hC : fileK.C w Ap l.length l) (hlc : l.length ≤ c) (hl : l.length ≤ 4398046511104)
    (hlen : ∀ p, p ∈ l → p.data.length ≤ 140737488355328) (hnm : ∀ p, p ∈ l → p.name.size ≤ 9223372036854775807) :
    Calls Tryz.prog 19 #[.agg #[.slice Ap l.length c]] w fun e w' => Frm (fun _ => False) w w' ∧ ((Dm.Good l ∧ ∃ b A lab, e = .returned (.tuple #[dptr b, .nilIface]) ∧ DiskAt w.heap.size w' b A lab (Disk.load l)) ∨ (¬ Dm.Good l ∧ e = .returned (.tuple #[.pointer none, errV eb 10]))) := by
  have gi := he.var 10 h10
  have gil := he.low 10 h10
  have KN := Lib.hid (fun w => new_calls w)
  have HC := Lib.hid hC
  have HLen := Lib.hid hlen
  have HNm := Lib.hid hnm
  clear hC hlen hnm
  rw [errV_pos eb 10 (by decide)] at gi ⊢
  have gi' : w.cell? ⟨2, 0, none⟩ = some (.iface 228 (.pointer (some (eb 10)))) := gi
  clear gi he
  unfold dptr
  go_enter Tryz.func19, Tryz.ntmps19
  go_wp2_with fail
  refine (KN.out _).mono ?_
  rintro e w1 ⟨rfl, rfl⟩
  have hb0 := born (w.alloc (.cells #[.slice Ap l.length c] 36))
  have hf0 : Frm (fun _ => False) w (wBorn (w.alloc (.cells #[.slice Ap l.length c] 36))) := ((Frm.refl (fun _ => False) w).alloc _).trans (Frm.of_below (born_below _) (fun _ => False)) (fun _ _ h => h)
  have hx0 : (wBorn (w.alloc (.cells #[.slice Ap l.length c] 36))).heap[w.heap.size]? = some (.cells #[.slice Ap l.length c] 36 (0, 0)) := ((born_below _).block _ (by simp)).trans blk_alloc
  have I0 : LoadInv w (wBorn (w.alloc (.cells #[.slice Ap l.length c] 36))) w.heap.size (w.heap.size + 1 + 2) Ap l.length c (bornAdr (w.alloc (.cells #[.slice Ap l.length c] 36)).heap.size) (bornLab (w.alloc (.cells #[.slice Ap l.length c] 36)).heap.size) (Disk.load (l.take 0)) :=
    ⟨hf0, hx0, by rw [World.size_alloc] at hb0 ⊢; exact hb0⟩
  have HI := Lib.hid I0
  have x0 := cell_of (i := 0) hx0 rfl
  simp only [World.size_alloc]
  unfold dptr
  clear I0 hb0 hf0 hx0
  generalize hw1 : wBorn (w.alloc (.cells #[.slice Ap l.length c] 36)) = w1 at *
  clear hw1
  generalize hbb : w.heap.size + 1 + 2 = bb at *
  clear hbb
  obtain ⟨bx, hbx⟩ : ∃ bx, bx = w.heap.size := ⟨_, rfl⟩
  have HBX := Lib.hid hbx
  rw [← hbx] at x0 HI gil ⊢
  clear hbx
  go_wp2_with fail
  go_loopw [16] (fun v wr => ∃ i A lab, v = .int .i64 (i : Nat) ∧ i ≤ l.length ∧ Dm.Good (l.take i) ∧ LoadInv w wr bx bb Ap l.length c A lab (Disk.load (l.take i))) (fun v _ => l.length - (intOf v).toNat)
  case atStart => exact ⟨0, _, _, rfl, Nat.zero_le _, ⟨by simp, by simp, by simp⟩, HI.out⟩
  case round =>
    obtain ⟨i, A, lab, rfl, hi, hgood, I⟩ := hrel
    have II := Lib.hid I
    have HG := Lib.hid hgood
    clear I hgood
    by_cases hlt : i < l.length
    · obtain ⟨p, hp⟩ : ∃ p, l[i]? = some p := ⟨_, List.getElem?_eq_getElem hlt⟩
      have hpm := List.mem_of_getElem? hp
      have hCr : fileK.C wr Ap l.length l := Kd.C_below HC.out (II.out.frm.below (fun _ h => h.elim) (Nat.le_refl _))
      obtain ⟨ad, A1, c1, A2, c2, rfl, k0w, k1w, k2w, hby, hbd, hc2, hbl⟩ := img_cells HC.out hp
      have k0 := frm_cell II.out.frm k0w
      have k1 := frm_cell II.out.frm k1w
      have k2 := frm_cell II.out.frm k2w
      have hpl := HLen.out p hpm
      have hpn := HNm.out p hpm
      have HP := Lib.hid (And.intro hp hpm)
      have HBY := Lib.hid hby
      have HBD := Lib.hid hbd
      have HCR := Lib.hid hCr
      clear hp hpm hby hbd hCr k0w k1w k2w
      have xb : wr.cell? ⟨bx, 0, none⟩ = some (.slice (some ad) l.length c) := cell_of II.out.box rfl
      have gir : wr.cell? ⟨2, 0, none⟩ = some (.iface 228 (.pointer (some (eb 10)))) := (II.out.frm.cell (by rw [← HBX.out]; exact gil) id).trans gi'
      have hs6 : bx < wr.heap.size := Da.blk_lt II.out.box
      obtain ⟨ob, hob⟩ : ∃ o : Obj, o = .cells #[.string p.name, .slice A1 p.data.length c1, .slice A2 p.bad.length c2] 41 := ⟨_, rfl⟩
      have HOB := Lib.hid hob
      have xb' := cell_alloc (o := .cells #[.string p.name, .slice A1 p.data.length c1, .slice A2 p.bad.length c2] 41) xb
      have gir' := cell_alloc (o := .cells #[.string p.name, .slice A1 p.data.length c1, .slice A2 p.bad.length c2] 41) gir
      have ff : Frm (fun _ => False) w wr := II.out.frm
      clear hob
      have KG : Hid (∀ W, Calls Tryz.prog 51 #[.string p.name] W fun e w' => e = .returned (.bool (good p.name)) ∧ w' = W) := fun W => goodName_calls p.name W hpn
      obtain ⟨bo, hbo⟩ : ∃ bo : Bool, bo = true ↔ (good p.name = false ∨ ¬ (i = 0 ∨ ∃ m q, i = m + 1 ∧ l[m]? = some q ∧ nameLt q.name p.name)) := by classical exact ⟨decide _, decide_eq_true_iff⟩
      have HBO := Lib.hid hbo
      clear hbo
      go_upto_region 5 with (fail)
      go_cut [40] from 21 to 40 (fun t wx => t = .bool bo ∧ ∃ nq, wx = (wr.alloc (.cells #[.string p.name, .slice A1 p.data.length c1, .slice A2 p.bad.length c2] 41)).drewN nq)
      case first =>
        by_cases hgn : good p.name = false
        · rw [hgn] at KG
          have hb1 : bo = true := HBO.out.2 (.inl hgn)
          clear hgn
          go_wp2_with fail
          go_quiet ((go_at_call 51; exact Calls.quiet_of_same (KG.out _)))
          go_wp2
          go_meet
          case rel => exact ⟨by rw [hb1], _, rfl⟩
        · have hgn' : good p.name = true := by simpa using hgn
          rw [hgn'] at KG
          by_cases hi0 : i = 0
          · have hd0 : decide (0 < i) = false := by rw [hi0]; rfl
            have hb1 : bo = false := by
              cases bo with
              | false => rfl
              | true => exact absurd (HBO.out.1 rfl) (fun h => h.elim hgn (fun h => h (.inl hi0)))
            clear hgn hgn' hi0
            go_wp2_with fail
            go_quiet ((go_at_call 51; exact Calls.quiet_of_same (KG.out _)))
            go_wp2
            go_meet
            case rel => exact ⟨by rw [hb1], _, rfl⟩
          · obtain ⟨m, hm⟩ : ∃ m, m + 1 = i := ⟨i - 1, by omega⟩
            obtain ⟨q, hq⟩ : ∃ q, l[m]? = some q := ⟨_, List.getElem?_eq_getElem (by omega)⟩
            obtain ⟨ad', _, _, _, _, e, k0q, _⟩ := img_cells HCR.out hq
            cases e
            have k0q' := cell_alloc (o := .cells #[.string p.name, .slice A1 p.data.length c1, .slice A2 p.bad.length c2] 41) k0q
            have hdI : decide (0 < i) = true := decide_eq_true (by omega)
            have hwp : IntKind.i64.wrap ((i : Int) - 1) = (m : Int) := by rw [IntKind.wrap_i64]; omega
            have hmI : (m : Int) < (l.length : Int) := by omega
            have hlt2 : Op.bytesLess q.name.toList p.name.toList = true ↔ nameLt q.name p.name := by
              rw [bytesLess_eq, Lib.toList_data, Lib.toList_data, decide_eq_true_eq]; rfl
            have hno : nameLt q.name p.name ↔ bo = false := by
              have h := HBO.out
              constructor
              · intro h1
                cases bo with
                | false => rfl
                | true => exact absurd (h.1 rfl) (fun h => h.elim hgn (fun h => h (.inr ⟨m, q, hm.symm, hq, h1⟩)))
              · intro h1
                refine Classical.byContradiction fun h2 => ?_
                have := h.2 (.inr (fun h3 => h3.elim hi0 (fun ⟨m', q', e1, e2, e3⟩ => by
                  obtain rfl : m' = m := by omega
                  rw [hq] at e2
                  cases e2
                  exact h2 e3)))
                rw [h1] at this; cases this
            have hbe : Op.bytesLess q.name.toList p.name.toList = !bo := by
              rw [Bool.eq_iff_iff, hlt2, hno]; simp
            have hgeq : ∀ W : World, (binOp .geq 9 (.string q.name) (.string p.name)).run Tryz.prog W = .ok (.bool bo) W := fun W => by
              simp [binOp, Op.stringOp, hbe]
            clear hgn hgn' hi0 hm hq hlt2 hno k0q hbe
            go_wp2_with fail
            go_quiet ((go_at_call 51; exact Calls.quiet_of_same (KG.out _)))
            go_wp2
            go_meet
            case rel =>
              exact ⟨rfl, _, rfl⟩
      case rest =>
        obtain ⟨rfl, nq, rfl⟩ := hcut
        have fq : Frm (fun _ => False) wr ((wr.alloc (.cells #[.string p.name, .slice A1 p.data.length c1, .slice A2 p.bad.length c2] 41)).drewN nq) := ((Frm.refl _ _).alloc _).drewN _
        have hfil : ((wr.alloc (.cells #[.string p.name, .slice A1 p.data.length c1, .slice A2 p.bad.length c2] 41)).drewN nq).heap[wr.heap.size]? = some (.cells #[.string p.name, .slice A1 p.data.length c1, .slice A2 p.bad.length c2] 41 (0, 0)) := (blk_alloc (w := wr))
        have IQ : LoadInv w ((wr.alloc (.cells #[.string p.name, .slice A1 p.data.length c1, .slice A2 p.bad.length c2] 41)).drewN nq) bx bb (some ad) l.length c A lab (Disk.load (l.take i)) :=
          II.out.step HBX.out (fq.mono (fun _ _ h => h.elim)) (II.out.dsk.frame fq (fun _ h => h.elim))
        have hno6 : lab wr.heap.size = none := by
          rcases hl : lab wr.heap.size with _ | pp
          · rfl
          · have := (II.out.dsk.base _ pp hl).2; omega
        obtain ⟨s6, hs6e⟩ : ∃ s, s = wr.heap.size := ⟨_, rfl⟩
        rw [← hs6e] at hfil hno6 ⊢
        generalize hWq : (wr.alloc (.cells #[.string p.name, .slice A1 p.data.length c1, .slice A2 p.bad.length c2] 41)).drewN nq = Wq at *
        have hs6q : s6 < Wq.heap.size := Da.blk_lt hfil
        have M0 : MidInv w Wq bx bb (some ad) l.length c A lab (Disk.load (l.take i)) s6 (.cells #[.string p.name, .slice A1 p.data.length c1, .slice A2 p.bad.length c2] 41) := ⟨IQ, hfil, hno6⟩
        have HM := Lib.hid M0
        clear M0 IQ hfil hno6 fq hWq xb xb' gir gir' k0 k1 k2 ff KG HCR hs6 hs6e II
        have giq : Wq.cell? ⟨2, 0, none⟩ = some (.iface 228 (.pointer (some (eb 10)))) := (HM.out.inv.frm.cell (by rw [← HBX.out]; exact gil) id).trans gi'
        cases bo with
        | true =>
          have hng : ¬ Dm.Good l := by
            rcases HBO.out.1 rfl with h | h
            · exact not_good_name HP.out.1 h
            · intro hg
              rcases Nat.eq_zero_or_pos i with h0 | h0
              · exact h (.inl h0)
              · obtain ⟨m, rfl⟩ : ∃ m, i = m + 1 := ⟨i - 1, by omega⟩
                obtain ⟨q, hq⟩ : ∃ q, l[m]? = some q := ⟨_, List.getElem?_eq_getElem (by omega)⟩
                exact not_good_order hq HP.out.1 (fun h2 => h (.inr ⟨m, q, rfl, hq, h2⟩)) hg
          go_wp2
          go_quiet (fail)
          go_wp2
          go_ret2
          exact ⟨HM.out.inv.frm.drewN _, .inr ⟨hng, rfl⟩⟩
        | false =>
          have hgo : good p.name = true ∧ (i = 0 ∨ ∃ m q, i = m + 1 ∧ l[m]? = some q ∧ nameLt q.name p.name) := by
            refine Classical.byContradiction fun h => ?_
            have := HBO.out.2 (by
              by_cases h1 : good p.name = true
              · exact .inr fun h2 => h ⟨h1, h2⟩
              · exact .inl (by simpa using h1))
            cases this
          have HGO := Lib.hid hgo
          clear hgo giq
          obtain ⟨LL, hLL⟩ : ∃ LL, LL = l.take i := ⟨_, rfl⟩
          have hLi : LL.length = i := by rw [hLL, List.length_take]; omega
          rw [← hLL] at HM HG
          have HLL := Lib.hid (And.intro hLL hLi)
          have hDl : (Disk.load LL).files.length = i := by rw [← hLi]; simp [Disk.load]
          have dq := HM.out.inv.dsk
          obtain ⟨g1, g2, g3⟩ := dq.newFile (WF.load HG.out)
          have knf := newFile_calls dq (by rw [hDl]; omega)
          rw [hDl] at g1 g2 knf
          have g1' : DiskAt (bx + 1) (wNew Wq bb i) bb (A.withFile i (newFAdr Wq.heap.size)) (newLab lab i Wq.heap.size) (Dmid LL FileS.new) := g1
          have M1 := HM.out.step HBX.out g2 g1' (by have := HM.out.lno; unfold newLab; rw [if_neg (by omega), if_neg (by omega), if_neg (by omega), if_neg (by omega)]; exact this)
          have hfa1 : (A.withFile i (newFAdr Wq.heap.size)).fa i = newFAdr Wq.heap.size := withFile_at _ _ _
          have KNF := Lib.hid knf
          have HM1 := Lib.hid M1
          have hsw : s6 < (wNew Wq bb i).heap.size := Da.blk_lt M1.fil
          obtain ⟨fb, hfb⟩ : ∃ fb, fb = Wq.heap.size + 3 := ⟨_, rfl⟩
          have hfb1 : ((A.withFile i (newFAdr Wq.heap.size)).fa i).fb = fb := by rw [hfa1, hfb]; rfl
          rw [← hfb] at KNF
          clear hLL hDl dq g1 g2 g3 knf g1' M1 hfa1 hs6q hfb
          generalize A.withFile i (newFAdr Wq.heap.size) = Aa at *
          generalize newLab lab i Wq.heap.size = laba at *
          unfold dptr at KNF
          go_wp2_with fail
          refine KNF.out.mono ?_
          rintro e w' ⟨rfl, rfl⟩
          generalize wNew Wq bb i = W1 at *
          have HF1 := Lib.hid (HM1.out.inv.dsk.files i FileS.new (by rw [← hLi]; exact Dmid_file LL FileS.new))
          have f1c := HM1.out.fil
          have z1 : W1.cell? ⟨s6, 1, none⟩ = some (.slice A1 p.data.length c1) := cell_of f1c rfl
          have KCL := Lib.hid (cloneB_any _ p.data W1 (HBY.out.frm HM1.out.inv.frm) (by omega))
          have fbl : fb < W1.heap.size := by rw [← hfb1]; exact Da.blk_lt HF1.out.blk
          have b0 := HF1.out.blk
          rw [hfb1] at b0
          have HB0 := Lib.hid b0
          clear f1c KNF HM hLi b0
          go_upto_region 9 with (first
            | (go_at_call 69; (with_reducible refine KCL.out.mono ?_); rintro e w2 ⟨pv, cv, rfl, hr2, hf2⟩; have b1 := (hf2.block fb fbl id).trans HB0.out; have y1 := cell_of (i := 1) b1 rfl; have y2 := frozen_of (i := 1) b1; have HR2 := Lib.hid (And.intro hr2 hf2); clear hr2 hf2 b1))
          obtain ⟨hr2, hf2⟩ := HR2.out
          have hv2 : ∀ g, (Value.slice pv p.data.length cv).ownBlock = some g → W1.heap.size ≤ g ∧ g < w2.heap.size := fun g hg => own_low hr2 hg
          have hfd : (Dmid LL FileS.new).files[i]? = some FileS.new := by rw [← HLL.out.2]; exact Dmid_file LL FileS.new
          obtain ⟨d2, f2⟩ := HM1.out.inv.dsk.setSeen hfd hf2 hr2
          have e2 : (Dmid LL FileS.new).modify i (fun f => { f with seen := p.data }) = Dmid LL (fileJ p 0) := by rw [← HLL.out.2, Dmid_modify, fileJ_zero]
          rw [e2, hfb1] at d2
          rw [hfb1] at f2
          have M2 := HM1.out.step HBX.out f2 d2 (by
            unfold moveLab
            rw [if_neg (by intro e; have := (hv2 s6 e.symm).1; omega), if_neg (by rw [HM1.out.lno]; simp), HM1.out.lno])
          have hsd2 : ((Aa.withFile i { Aa.fa i with sd := .slice pv p.data.length cv }).fa i).sd = .slice pv p.data.length cv := by rw [withFile_at]
          have hfb2 : ((Aa.withFile i { Aa.fa i with sd := .slice pv p.data.length cv }).fa i).fb = fb := by rw [withFile_at]; exact hfb1
          have HM2 := Lib.hid M2
          clear d2 f2 e2 M2 hfd hv2 hr2 hf2 HM1 HF1 HR2 y1 y2 z1 KCL hfb1 hsw
          generalize Aa.withFile i { Aa.fa i with sd := .slice pv p.data.length cv } = Ab at *
          generalize moveLab laba (.sd i) (Value.slice pv p.data.length cv).ownBlock = labb at *
          generalize w2.setCell ⟨fb, 1, none⟩ (.slice pv p.data.length cv) = W3 at *
          have z1 : W3.cell? ⟨s6, 1, none⟩ = some (.slice A1 p.data.length c1) := cell_of HM2.out.fil rfl
          have z2 : W3.cell? ⟨s6, 2, none⟩ = some (.slice A2 p.bad.length c2) := cell_of HM2.out.fil rfl
          go_wp2_with fail
          go_loopw [54] (fun v wx => ∃ j, v = .int .i64 (j : Nat) ∧ j ≤ p.bad.length ∧ badUpto (p.bad.take j) (sectors p.data.length) ∧ MidInv w wx bx bb (some ad) l.length c Ab labb (Dmid LL (fileJ p j)) s6 (.cells #[.string p.name, .slice A1 p.data.length c1, .slice A2 p.bad.length c2] 41)) (fun v _ => p.bad.length - (intOf v).toNat)
          case atStart => exact ⟨0, rfl, Nat.zero_le _, badUpto_nil _, HM2.out⟩
          case round =>
            obtain ⟨j, rfl, hj, hbu, Mj⟩ := hrel
            have HMJ := Lib.hid Mj
            have HBU := Lib.hid hbu
            clear Mj hbu z1 z2
            have z1 : wr.cell? ⟨s6, 1, none⟩ = some (.slice A1 p.data.length c1) := cell_of HMJ.out.fil rfl
            have z2 : wr.cell? ⟨s6, 2, none⟩ = some (.slice A2 p.bad.length c2) := cell_of HMJ.out.fil rfl
            by_cases hjl : j < p.bad.length
            · obtain ⟨kx, hk⟩ : ∃ kx, p.bad[j]? = some kx := ⟨_, List.getElem?_eq_getElem hjl⟩
              obtain ⟨a2, rfl, hca⟩ := HBD.out j hjl
              have hkg : p.bad[j] = kx := by rw [List.getElem?_eq_getElem hjl] at hk; exact Option.some.inj hk
              rw [hkg] at hca
              have hcj := frm_cell HMJ.out.inv.frm hca
              have HK := Lib.hid hk
              have gir : wr.cell? ⟨2, 0, none⟩ = some (.iface 228 (.pointer (some (eb 10)))) := (HMJ.out.inv.frm.cell (by rw [← HBX.out]; exact gil) id).trans gi'
              obtain ⟨S, hS⟩ : ∃ S, S = sectors p.data.length := ⟨_, rfl⟩
              have KSE := Lib.hid (sectors_calls p.data.length (by omega) wr)
              rw [← hS] at KSE HBU
              have HS := Lib.hid hS
              clear hk hkg hca hS
              obtain ⟨bq, hbq⟩ : ∃ bq : Bool, bq = true ↔ ¬ (0 ≤ kx ∧ kx < (S : Int) ∧ (j = 0 ∨ ∃ m q, j = m + 1 ∧ p.bad[m]? = some q ∧ q < kx)) := by classical exact ⟨decide _, decide_eq_true_iff⟩
              have HBQ := Lib.hid hbq
              clear hbq
              obtain ⟨wa, rfl⟩ : ∃ wa, wa = wr := ⟨_, rfl⟩
              go_upto_region 12 with (fail)
              go_cut [82] from 59 to 82 (fun t wx => t = .bool bq ∧ wx = wa)
              case first =>
                by_cases hk0 : kx < 0
                · have hb1 : bq = true := HBQ.out.2 (fun h => by omega)
                  go_wp2_with (first | (go_at_call 70; refine KSE.out.mono ?_; rintro e w' ⟨rfl, rfl⟩))
                  go_meet
                  case rel => exact ⟨by rw [hb1], rfl⟩
                · by_cases hks : kx < (S : Int)
                  · have hge : ¬ (S : Int) ≤ kx := by omega
                    by_cases hj0 : j = 0
                    · have hd0 : decide (0 < j) = false := by rw [hj0]; rfl
                      have hb1 : bq = false := by
                        cases bq with
                        | false => rfl
                        | true => exact absurd ⟨by omega, hks, .inl hj0⟩ (HBQ.out.1 rfl)
                      clear hj0
                      go_wp2_with (first | (go_at_call 70; refine KSE.out.mono ?_; rintro e w' ⟨rfl, rfl⟩))
                      go_meet
                      case rel => exact ⟨by rw [hb1, decide_eq_false (by omega)], rfl⟩
                    · obtain ⟨m, hm⟩ : ∃ m, m + 1 = j := ⟨j - 1, by omega⟩
                      obtain ⟨kq, hq⟩ : ∃ kq, p.bad[m]? = some kq := ⟨_, List.getElem?_eq_getElem (by omega)⟩
                      obtain ⟨a2', e, hcm⟩ := HBD.out m (by omega)
                      cases e
                      have hqg : p.bad[m]'(by omega) = kq := by rw [List.getElem?_eq_getElem (by omega)] at hq; exact Option.some.inj hq
                      rw [hqg] at hcm
                      have hcm' := frm_cell HMJ.out.inv.frm hcm
                      have hdI : decide (0 < j) = true := decide_eq_true (by omega)
                      have hwp : IntKind.i64.wrap ((j : Int) - 1) = (m : Int) := by rw [IntKind.wrap_i64]; omega
                      have hmI : (m : Int) < (p.bad.length : Int) := by omega
                      by_cases hlt2 : kq < kx
                      · have hge2 : ¬ kx ≤ kq := by omega
                        have hb1 : bq = false := by
                          cases bq with
                          | false => rfl
                          | true => exact absurd ⟨by omega, hks, .inr ⟨m, kq, hm.symm, hq, hlt2⟩⟩ (HBQ.out.1 rfl)
                        clear hm hq hqg hcm hj0
                        go_wp2_with (first | (go_at_call 70; refine KSE.out.mono ?_; rintro e w' ⟨rfl, rfl⟩))
                        go_meet
                        case rel => exact ⟨by rw [hb1, show decide ((S : Int) ≤ kx) = false from decide_eq_false (by omega), show decide (kx ≤ kq) = false from decide_eq_false (by omega)]; rfl, rfl⟩
                      · have hge2 : kx ≤ kq := by omega
                        have hb1 : bq = true := HBQ.out.2 (fun h => h.2.2.elim hj0 (fun ⟨m', q', e1, e2, e3⟩ => by
                          obtain rfl : m' = m := by omega
                          rw [hq] at e2
                          cases e2
                          omega))
                        clear hm hq hqg hcm hj0
                        go_wp2_with (first | (go_at_call 70; refine KSE.out.mono ?_; rintro e w' ⟨rfl, rfl⟩))
                        go_meet
                        case rel => exact ⟨by rw [hb1], rfl⟩
                  · have hge : (S : Int) ≤ kx := by omega
                    have hb1 : bq = true := HBQ.out.2 (fun h => by omega)
                    go_wp2_with (first | (go_at_call 70; refine KSE.out.mono ?_; rintro e w' ⟨rfl, rfl⟩))
                    go_meet
                    case rel => exact ⟨by rw [hb1], rfl⟩
              case rest =>
                obtain ⟨rfl, rfl⟩ := hcut
                cases bq with
                | true =>
                  have hng : ¬ Dm.Good l := fun hg => by
                    have hbk := hg.bads p HP.out.2
                    have h1 := hbk.2 kx (List.mem_of_getElem? HK.out)
                    refine HBQ.out.1 rfl ⟨h1.1, by rw [HS.out]; exact h1.2, ?_⟩
                    rcases Nat.eq_zero_or_pos j with h0 | h0
                    · exact .inl h0
                    · obtain ⟨m, rfl⟩ : ∃ m, j = m + 1 := ⟨j - 1, by omega⟩
                      obtain ⟨kq, hq⟩ : ∃ kq, p.bad[m]? = some kq := ⟨_, List.getElem?_eq_getElem (by omega)⟩
                      exact .inr ⟨m, kq, rfl, hq, Classical.byContradiction fun h2 => not_badOk_order hq HK.out h2 hbk⟩
                  go_wp2
                  go_quiet (fail)
                  go_wp2
                  go_ret2
                  exact ⟨HMJ.out.inv.frm.drewN _, .inr ⟨hng, rfl⟩⟩
                | false =>
                  have hok : 0 ≤ kx ∧ kx < (S : Int) ∧ (j = 0 ∨ ∃ m q, j = m + 1 ∧ p.bad[m]? = some q ∧ q < kx) := Classical.byContradiction fun h => by
                    have := HBQ.out.2 h
                    cases this
                  obtain ⟨hx0, hxS, hxo⟩ := hok
                  obtain ⟨k, rfl⟩ : ∃ k : Nat, kx = (k : Int) := ⟨kx.toNat, by omega⟩
                  have hxo2 : j = 0 ∨ ∃ q, p.bad[j - 1]? = some q ∧ q < (k : Int) := hxo.imp id (fun ⟨m, q, e1, e2, e3⟩ => ⟨q, by rw [e1]; exact e2, e3⟩)
                  have hkl : k * 512 < p.data.length := by rw [← sectors_lt, ← HS.out]; omega
                  have hbs := badUpto_step HBU.out HK.out hx0 hxS hxo2
                  have HBS := Lib.hid hbs
                  obtain ⟨T, hT⟩ : ∃ T, min ((k + 1) * 512) p.data.length = T := ⟨_, rfl⟩
                  obtain ⟨fr, hfr⟩ : ∃ fr, k * 512 = fr := ⟨_, rfl⟩
                  have hT1 : fr < T := by omega
                  have hT2 : T ≤ p.data.length := by omega
                  have hkk : k ≤ 8796093022208 := by omega
                  have KSP := Lib.hid (span_big k p.data.length fr T hkk (by omega) hfr hT wc)
                  have F := HMJ.out.inv.dsk.files i (fileJ p j) (by rw [← HLL.out.2]; exact Dmid_file _ _)
                  have fblk := F.blk
                  have hrow := F.seen.row
                  rw [hfb2, hsd2] at fblk
                  rw [hsd2, fileJ_len] at hrow
                  obtain ⟨g, c', e, hcv, hg0, hgl⟩ := row_shape hrow (by omega)
                  simp only [Value.slice.injEq, true_and] at e
                  obtain ⟨rfl, rfl⟩ := e
                  have x1 : wc.cell? ⟨fb, 1, none⟩ = some (.slice (some ⟨g, 0, none⟩) p.data.length cv) := cell_of fblk rfl
                  have HT := Lib.hid (And.intro hT hfr)
                  have HF := Lib.hid F
                  have HROW := Lib.hid hrow
                  have hcf : ¬ cv = fr := by omega
                  have hfL : fr ≤ T := Nat.le_of_lt hT1
                  have hTcs : T ≤ cv := by omega
                  have hTc2 : T ≤ p.data.length := hT2
                  have hlb : (fileJ p j).seen.length = p.data.length := fileJ_len p j
                  have HLB := Lib.hid hlb
                  have hmid : fr + (T - fr) = T := by omega
                  have HMid := Lib.hid hmid
                  have hof : fr + (T - fr) ≤ p.data.length := by omega
                  have hsz1 : s6 < wc.heap.size := Da.blk_lt HMJ.out.fil
                  have step : ∀ w3, w3.ownsRow 0 5 1 (.slice (some ⟨g, 0, none⟩) p.data.length cv) p.data.length (u8s ((fileJ p j).seen.take fr ++ List.replicate (T - fr) 0 ++ (fileJ p j).seen.drop T)) → wc.grownBy w3 (some g) →
                      ∃ sb ks, w3.cell? ⟨fb, 2, none⟩ = some (.map (some sb)) ∧ MapAt (Value.int .i64) w3 sb (ent ks) ∧ ks.Nodup ∧ (∀ x : Int, x ∈ ks ↔ 0 ≤ x ∧ (fileJ p j).badSeen x.toNat = true) ∧
                        ∀ w4, MapAt (Value.int .i64) w4 sb (setL (ent ks) (k : Int) (.int .i64 1)) → w3.grownBy w4 (some sb) → MidInv w w4 bx bb (some ad) l.length c Ab labb (Dmid LL (fileJ p (j + 1))) s6 (.cells #[.string p.name, .slice A1 p.data.length c1, .slice (some a2) p.bad.length c2] 41) := by
                    intro w3 hr3 hg3
                    have ecl : (fileJ p j).seen.take fr ++ List.replicate (T - fr) 0 ++ (fileJ p j).seen.drop T = clearAt k (fileJ p j).seen := by
                      unfold clearAt; rw [hlb, hT, hfr]
                    rw [ecl] at hr3
                    have hfd : (Dmid LL (fileJ p j)).files[i]? = some (fileJ p j) := by rw [← HLL.out.2]; exact Dmid_file _ _
                    have hcl : (clearAt k (fileJ p j).seen).length = p.data.length := by rw [clearAt_len, hlb]
                    obtain ⟨d3, f3⟩ := HMJ.out.inv.dsk.turnSeen hfd (w1 := w3) (xs := clearAt k (fileJ p j).seen) (by rw [hsd2]; exact hg3) (by rw [hsd2, hcl]; exact hr3)
                    have e3 : (Dmid LL (fileJ p j)).modify i (fun f => { f with seen := clearAt k (fileJ p j).seen }) = Dmid LL { (fileJ p j) with seen := clearAt k (fileJ p j).seen } := by rw [← HLL.out.2, Dmid_modify]
                    rw [e3] at d3
                    have M3 := HMJ.out.step HBX.out f3 d3 HMJ.out.lno
                    have F3 := d3.files i { (fileJ p j) with seen := clearAt k (fileJ p j).seen } (by rw [← HLL.out.2]; exact Dmid_file _ _)
                    have b3 := F3.blk
                    rw [hfb2] at b3
                    obtain ⟨ks, hm, hnd, hmem⟩ := F3.badSeen
                    refine ⟨_, ks, cell_of b3 rfl, hm, hnd, hmem, fun w4 hm4 hg4 => ?_⟩
                    have hS4 := SetAt.ins hnd hmem k hm4
                    obtain ⟨d4, f4⟩ := d3.turnBad (by rw [← HLL.out.2]; exact Dmid_file _ _) hg4 hS4
                    have e4 : (Dmid LL { (fileJ p j) with seen := clearAt k (fileJ p j).seen }).modify i (fun f => { f with badSeen := fun x => (fileJ p j).badSeen x || decide (x = k) }) = Dmid LL (fileJ p (j + 1)) := by
                      rw [← HLL.out.2, Dmid_modify, ← fileJ_succ HK.out hx0]; rfl
                    rw [e4] at d4
                    exact M3.step HBX.out f4 d4 M3.lno
                  have STEP := Lib.hid step
                  clear hbs hT hfr F fblk hrow hlb hmid hxo hxo2 hx0 hkl step
                  go_wp2_with (first
                    | (go_at_call 71; (with_reducible refine KSP.out.mono ?_); rintro e w' ⟨rfl, rfl⟩)
                    | (refine wpl_clear_bytes rfl (.tmp 99) rfl rfl (Nat.sub_pos_of_lt hT1) HROW.out HLB.out hof (fun w3 hr3 hg3 hs3 => ?_); rw [HMid.out] at hr3; obtain ⟨sb, ks, x32, hm3, hnd, hmem, hfin⟩ := STEP.out w3 hr3 hg3; have HFIN := Lib.hid hfin; clear hmem hfin)
                    | (at_mapUpdate; refine wpl_update _ rfl _ _ _ rfl kI Tryz.underlying100 (k : Int) rfl rfl hm3 (fun w4 hm4 hg4 hs4 => ?_)))
                  go_roundw
                  case rel => exact ⟨j + 1, by go_num, by omega, by rw [← HS.out]; exact HBS.out, HFIN.out w4 hm4 hg4⟩
                  case measure => simp [intOf]; omega
            · obtain rfl : j = p.bad.length := by omega
              have F := HMJ.out.inv.dsk.files i (fileJ p p.bad.length) (by rw [← HLL.out.2]; exact Dmid_file _ _)
              have hseen := F.seen
              have fblk := F.blk
              rw [hfb2, hsd2] at fblk
              rw [hsd2] at hseen
              have x1 : wr.cell? ⟨fb, 1, none⟩ = some (.slice pv p.data.length cv) := cell_of fblk rfl
              have x2 : wr.cell? ⟨fb, 2, none⟩ = some (.map (some (Ab.fa i).sb)) := cell_of fblk rfl
              have hlb : (fileJ p p.bad.length).seen.length = p.data.length := fileJ_len p _
              have KCL := Lib.hid (clone_calls (.slice pv p.data.length cv) (fileJ p p.bad.length).seen (Ab.fa i).sb (fileJ p p.bad.length).badSeen wr (RowAt.bytes hseen) F.badSeen (by rw [hlb]; omega))
              have HF := Lib.hid fblk
              have fbl : fb < wr.heap.size := Da.blk_lt fblk
              have hs6q : s6 < wr.heap.size := Da.blk_lt HMJ.out.fil
              clear F hseen fblk hlb
              go_upto_region 19 with (first
                | (go_at_call 59; (with_reducible refine KCL.out.mono ?_); rintro e w4 ⟨dv4, m4, rfl, hr4, hS4, hb4, hm41, hm42, hne4⟩; obtain ⟨pd, cd, rfl⟩ := own_form hr4; have b4 := (hb4.block fb fbl).trans HF.out; have y3 := cell_of (i := 3) b4 rfl; have y4 := cell_of (i := 4) b4 rfl; have q3 := frozen_of (i := 3) b4; have q4 := frozen_of (i := 4) b4; have HR4 := Lib.hid (And.intro hr4 (And.intro hS4 (And.intro hb4 (And.intro hm41 (And.intro hm42 hne4))))); clear hr4 hS4 hb4 hm41 hm42 hne4 b4))
              obtain ⟨hr4, hS4, hb4, hm41, hm42, hne4⟩ := HR4.out
              have hfd : (Dmid LL (fileJ p p.bad.length)).files[i]? = some (fileJ p p.bad.length) := by rw [← HLL.out.2]; exact Dmid_file _ _
              obtain ⟨d5, f5⟩ := HMJ.out.inv.dsk.setSafe hfd hb4 hr4 hS4 hm41 hm42 hne4
              have e5 : (Dmid LL (fileJ p p.bad.length)).modify i (fun f => { f with safe := f.seen, badSafe := f.badSeen }) = Dmid LL (loadFile p) := by rw [← HLL.out.2, Dmid_modify, fileJ_all]
              rw [e5, hfb2] at d5
              rw [hfb2] at f5
              have M5 := HMJ.out.step HBX.out f5 d5 (by
                unfold syncLab
                rw [if_neg (by intro e; have := (own_low hr4 e.symm).1; omega), if_neg (by omega), if_neg (by rw [HMJ.out.lno]; simp), HMJ.out.lno])
              have hfb5 : ((Ab.withFile i { Ab.fa i with ad := .slice pd (fileJ p p.bad.length).seen.length cd, ab := m4 }).fa i).fb = fb := by rw [withFile_at]; exact hfb2
              have HM5 := Lib.hid M5
              clear d5 f5 e5 M5 hfd hr4 hS4 hb4 hm41 hm42 hne4 HR4 KCL HF y3 y4 q3 q4 x1 x2 z1 z2 HMJ hfb2 hsd2 fbl hs6q HM2
              generalize Ab.withFile i { Ab.fa i with ad := .slice pd (fileJ p p.bad.length).seen.length cd, ab := m4 } = Ac at *
              generalize syncLab labb i (Value.slice pd (fileJ p p.bad.length).seen.length cd).ownBlock m4 = labc at *
              generalize (w4.setCell ⟨fb, 3, none⟩ (.slice pd (fileJ p p.bad.length).seen.length cd)).setCell ⟨fb, 4, none⟩ (.map (some m4)) = W5 at *
              have hbad : badOk p := by have := HBU.out; rw [List.take_length] at this; exact this
              have hgs : Dm.Good (LL ++ [p]) := by
                refine good_snoc HG.out HGO.out.1 ?_ hbad
                rcases HGO.out.2 with h0 | ⟨m, q, e1, e2, e3⟩
                · exact .inl (List.eq_nil_of_length_eq_zero (by rw [HLL.out.2]; exact h0))
                · refine .inr ⟨q, ?_, e3⟩
                  rw [HLL.out.2, HLL.out.1, e1, List.getElem?_take_of_lt (by omega)]
                  exact e2
              have hnin := notin_of_good hgs
              have etk : l.take (i + 1) = LL ++ [p] := by
                rw [List.take_add_one, ← HLL.out.1, HP.out.1]; rfl
              have HGS := Lib.hid (And.intro hgs (And.intro hnin etk))
              clear hbad hgs hnin etk
              have z0 : W5.cell? ⟨s6, 0, none⟩ = some (.string p.name) := cell_of HM5.out.fil rfl
              have r0 : W5.cell? ⟨bb, 0, none⟩ = some (.map (some Ac.nm)) := main_cell HM5.out.inv.dsk.blk rfl
              obtain ⟨l', hp', hm'⟩ := HM5.out.inv.dsk.names
              have HPN := Lib.hid hp'
              clear hp'
              have hfp5 : fptr Ac i = .pointer (some ⟨fb, 0, none⟩) := by unfold fptr; rw [hfb5]
              have HFP := Lib.hid hfp5
              clear hfp5 hfb5
              go_still_tail 7, (by kernel_rfl)
              change wpList _ _ _ _ _ W5.drew
              refine wpl_update _ rfl _ _ _ rfl kS Tryz.underlying85 p.name rfl rfl hm' ?_
              intro W6 hm6 hg6 hs6'
              have hwl := WF.load HG.out
              obtain ⟨l2, hp2, hl2⟩ := setL_names HPN.out hwl.nowN Ac p.name i
              obtain ⟨d6, f6⟩ := HM5.out.inv.dsk.setNow (w' := W6) (l := put (Disk.load LL).now p.name i) ⟨l2, hp2, by rw [← hl2, HFP.out]; exact hm6⟩ ⟨hg6.os, hg6.tape, hg6.output, hg6.size, hg6.block⟩
              have M6 := HM5.out.step HBX.out f6 d6 HM5.out.lno
              have HM6 := Lib.hid M6
              clear d6 f6 M6 hl2 hp2 l2 hm6 hg6 hs6' hm' z0 r0 HPN l'
              have z0 : W6.cell? ⟨s6, 0, none⟩ = some (.string p.name) := cell_of HM6.out.fil rfl
              have r0 : W6.cell? ⟨bb, 1, none⟩ = some (.map (some Ac.sm)) := main_cell HM6.out.inv.dsk.blk rfl
              obtain ⟨l', hp', hm'⟩ := HM6.out.inv.dsk.sure
              have HPN := Lib.hid hp'
              clear hp'
              go_wp2_with fail
              go_still_tail 7, (by kernel_rfl)
              change wpList _ _ _ _ _ W6.drew
              refine wpl_update _ rfl _ _ _ rfl kS Tryz.underlying85 p.name rfl rfl hm' ?_
              intro W7 hm7 hg7 hs7'
              obtain ⟨l2, hp2, hl2⟩ := setL_names HPN.out hwl.sureN Ac p.name i
              obtain ⟨d7, f7⟩ := HM6.out.inv.dsk.setSure (w' := W7) (l := put (Disk.load LL).sure p.name i) ⟨l2, hp2, by rw [← hl2, HFP.out]; exact hm7⟩ ⟨hg7.os, hg7.tape, hg7.output, hg7.size, hg7.block⟩
              have e7 := load_snoc HGS.out.2.1
              rw [HLL.out.2] at e7
              have M7 := HM6.out.step HBX.out f7 d7 HM6.out.lno
              have HM7 : Hid (LoadInv w W7 bx bb (some ad) l.length c Ac labc (Disk.load (LL ++ [p]))) := by rw [← e7]; exact M7.inv
              clear d7 f7 M7 hl2 hp2 l2 hm7 hg7 hs7' hm' z0 r0 HPN l' e7
              go_wp2_with fail
              go_roundw
              case rel => exact ⟨i + 1, Ac, labc, by go_num, by omega, by rw [HGS.out.2.2]; exact HGS.out.1, by rw [HGS.out.2.2]; exact HM7.out⟩
              case measure => simp [intOf]; omega
    · obtain rfl : i = l.length := by omega
      rw [List.take_length] at HG II
      go_wp2_with fail
      go_ret2
      exact ⟨II.out.frm, .inl ⟨HG.out, bb, A, lab, rfl, II.out.dsk.lower (by have := HBX.out; omega)⟩⟩
end Go.Proofs.YtglhedahannjiaaGreatDoor.Dw
