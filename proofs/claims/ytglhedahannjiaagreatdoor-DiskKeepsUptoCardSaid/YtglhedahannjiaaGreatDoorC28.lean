/- A part of the proof of diskDown_holds: Fk. No condition. -/
import Derived.Test.YtglhedahannjiaaGreatDoorC27

/- Walks: played: a disk behind a script's calls. -/
namespace Go.Proofs.YtglhedahannjiaaGreatDoor.Dw
open Go.RowKit Go.ChangeMaps Go.Proofs.YtglhedahannjiaaGreatDoor.Mp Go.Proofs.YtglhedahannjiaaGreatDoor.Dm Go.Proofs.YtglhedahannjiaaGreatDoor.Da
open Go.Proofs.YtglhedahannjiaaGreatDoorW.PrintWords (Kd ReadsInt add_field)
set_option linter.unusedVariables false
set_option linter.unusedSimpArgs false
set_option linter.unusedSectionVars false
theorem Live.bornB {B : Nat} {w : World} {eb : Nat → Addr} {L : List Err} (he : ErrsAt B w eb L) (hB : B ≤ w.heap.size) {n m : Nat} (hf : DFit n m) : Live B (wBorn w) (w.heap.size + 2) (bornLab w.heap.size) eb L n m Disk.new :=
  ⟨⟨_, (Go.Proofs.YtglhedahannjiaaGreatDoor.Dw.born w).lower hB⟩, he.frm (Frm.of_below (born_below w) (fun _ => False)) (fun _ h => h.elim), Inv.new, Sz.new.mono (Nat.zero_le _) (Nat.zero_le _), hf⟩
/-- One call of a script, cell by cell. -/
theorem op_cells {w0 w : World} (hf : Frm (fun _ => False) w0 w) {A : Option Addr} {os : List OpS} (hC : opK.C w0 A os.length os) {j : Nat} {o : OpS} (ho : os[j]? = some o) :
    ∃ ad A1 c1 A2 c2 A3 c3, A = some ad ∧ w.cell? (ad.add (j * 9)) = some (.int .i64 o.kind) ∧ w.cell? ⟨(ad.add (j * 9)).block, (ad.add (j * 9)).off + 1, none⟩ = some (.string o.name) ∧ w.cell? ⟨(ad.add (j * 9)).block, (ad.add (j * 9)).off + 2, none⟩ = some (.string o.to_) ∧
      w.cell? ⟨(ad.add (j * 9)).block, (ad.add (j * 9)).off + 3, none⟩ = some (.slice A1 o.data.length c1) ∧ w.cell? ⟨(ad.add (j * 9)).block, (ad.add (j * 9)).off + 4, none⟩ = some (.int .i64 o.n) ∧ w.cell? ⟨(ad.add (j * 9)).block, (ad.add (j * 9)).off + 5, none⟩ = some (.slice A2 o.fails.length c2) ∧
      w.cell? ⟨(ad.add (j * 9)).block, (ad.add (j * 9)).off + 6, none⟩ = some (.int .i64 o.cut) ∧ w.cell? ⟨(ad.add (j * 9)).block, (ad.add (j * 9)).off + 7, none⟩ = some (.slice A3 o.fs.length c3) ∧ w.cell? ⟨(ad.add (j * 9)).block, (ad.add (j * 9)).off + 8, none⟩ = some (.int .i64 o.fn) ∧
      OpIn w0 o (.agg #[.int .i64 o.kind, .string o.name, .string o.to_, .slice A1 o.data.length c1, .int .i64 o.n, .slice A2 o.fails.length c2, .int .i64 o.cut, .slice A3 o.fs.length c3, .int .i64 o.fn]) ∧
      (∀ j (hj : j < o.fs.length), ∃ ad, A3 = some ad ∧ w0.cell? (ad.add j) = some (.int .i64 o.fs[j])) := by
  have hj := (List.getElem?_eq_some_iff.1 ho).1
  obtain ⟨ad, rfl, h⟩ := hC.2.2 (by omega)
  obtain ⟨c, hc, hK, hcell⟩ := h j o ho
  obtain ⟨v, hv, hin, A1, c1, A2, c2, A3, c3, rfl⟩ := opK_in hK
  have hz : opK.sz = 9 := rfl
  rw [hz] at hcell
  have e : v = #[.int .i64 o.kind, .string o.name, .string o.to_, .slice A1 o.data.length c1, .int .i64 o.n, .slice A2 o.fails.length c2, .int .i64 o.cut, .slice A3 o.fs.length c3, .int .i64 o.fn] := Array.toList_inj.1 hv
  subst e
  have k : ∀ i u, 0 < i → ([.int .i64 o.kind, .string o.name, .string o.to_, .slice A1 o.data.length c1, .int .i64 o.n, .slice A2 o.fails.length c2, .int .i64 o.cut, .slice A3 o.fs.length c3, .int .i64 o.fn] : List Value)[i]? = some u → w.cell? ⟨(ad.add (j * 9)).block, (ad.add (j * 9)).off + i, none⟩ = some u := by
    intro i u hi hu
    have := frm_cell hf (hcell i u hu)
    rwa [add_field _ _ _ hi] at this
  obtain ⟨A1', c1', A2', c2', A3', c3', e, _, _, _, h7⟩ := id hin
  simp only [Value.agg.injEq, Array.mk.injEq, List.cons.injEq, Value.slice.injEq, and_true, true_and] at e
  obtain ⟨⟨rfl, rfl⟩, ⟨rfl, rfl⟩, rfl, rfl⟩ := e
  exact ⟨ad, A1, c1, A2, c2, A3, c3, rfl, frm_cell hf (hcell 0 _ rfl), k 1 _ (by omega) rfl, k 2 _ (by omega) rfl, k 3 _ (by omega) rfl, k 4 _ (by omega) rfl, k 5 _ (by omega) rfl, k 6 _ (by omega) rfl, k 7 _ (by omega) rfl, k 8 _ (by omega) rfl, hin, h7⟩
theorem Live.grow {B : Nat} {w : World} {b : Nat} {lab : Nat → Option Lb} {eb : Nat → Addr} {L : List Err} {n m n' m' : Nat} {D : Disk} (h : Live B w b lab eb L n m D) (hn : n ≤ n') (hm : m ≤ m') (hf : DFit n' m') : Live B w b lab eb L n' m' D :=
  ⟨h.dsk, h.ers, h.inv, h.sz.mono hn hm, hf⟩
/-- In played's loop. -/
structure PlayInv (w wr : World) (b : Nat) (eb : Nat → Addr) (s : Disk × Nat) (i : Nat) : Prop where
  frm : Frm (fun _ => False) w wr
  live : ∃ lab m, Live w.heap.size wr b lab eb l7 (1048576 + i) m s.1 ∧ m ≤ 1048576 ∧ m ≤ s.2
  sz : s.2 ≤ 1048576 + i * 140737488355328
theorem sz_step {a i d : Nat} (h : a ≤ 1048576 + i * 140737488355328) (hd : d ≤ 140737488355328) : a + d ≤ 1048576 + (i + 1) * 140737488355328 := by
  rw [Nat.succ_mul]; omega
theorem PlayInv.asked {w0 w wr W : World} {b : Nat} {eb : Nat → Addr} {s : Disk × Nat} {i : Nat} (h : PlayInv w wr b eb s i) (hw : Frm (fun _ => False) w0 w) (h15 : Errs15 w.heap.size w eb) (hW : Frm (fun _ => False) wr W) (o : OpS) (v : Value) (ho : OpIn w0 o v) (ok : OpOk o) (hi : i < 4096) (hd : o.kind = 2 → s.2 + o.data.length ≤ 1048576) :
    Calls Tryz.prog 25 #[dptr b, v] W fun e w' => ∃ av, e = .returned av ∧ ∀ s2, s2 = (s.1.ask o).2 → ∀ z, (z = if o.kind = 2 then s.2 + o.data.length else s.2) → PlayInv w w' b eb (s2, z) (i + 1) := by
  obtain ⟨lab, m, hL, hm1, hm2⟩ := h.live
  have hl' := hL.frm hW
  have hs1 := h.frm.size
  have hs2 := hW.size
  let m2 := if o.kind = 2 then m + o.data.length else m
  have hmm : m ≤ m2 := by show m ≤ if o.kind = 2 then m + o.data.length else m; split <;> omega
  have hmd : o.kind = 2 → m + o.data.length ≤ m2 := fun e => by show m + o.data.length ≤ if o.kind = 2 then m + o.data.length else m; rw [if_pos e]; omega
  have hm3 : m2 ≤ 1048576 := by
    show (if o.kind = 2 then m + o.data.length else m) ≤ 1048576
    split
    · rename_i h; have := hd h; omega
    · exact hm1
  have hm4 : m2 ≤ (if o.kind = 2 then s.2 + o.data.length else s.2) := by
    show (if o.kind = 2 then m + o.data.length else m) ≤ _
    split <;> omega
  have hfit : DFit (1048576 + i + 1) m2 := .small (by omega) (by omega)
  have hww : Frm (fun _ => False) w W := h.frm.trans hW (fun _ _ h => h)
  have h15' : Errs15 w.heap.size W eb := h15.frm hww (fun _ h => h.elim)
  have hw0W : Frm (fun k => w.heap.size ≤ k) w0 W := (hw.trans hww (fun _ _ h => h)).mono (fun _ _ h => h.elim)
  refine (asked_calls hl' h15' (by omega) hw0W hw.size o v ho ok hmm hmd hfit).mono ?_
  rintro e w' ⟨av, e1, _, lab', e3, e4, e5⟩
  refine ⟨av, e1, fun s2 hs2 z hz => ?_⟩
  subst hs2
  subst hz
  refine ⟨hww.trans e4 (fun k hk hl => ?_), ⟨lab', m2, e3, hm3, hm4⟩, ?_⟩
  · have := hL.base k hl; omega
  · simp only []
    split
    · rename_i h2; exact sz_step h.sz (by have := hd h2; omega)
    · exact sz_step (d := 0) h.sz (by omega)
open Classical in
set_option maxHeartbeats 2000000 in
set_option maxRecDepth 100000 in
theorem played_calls {w0 w : World} {eb : Nat → Addr} (h15 : Errs15 w.heap.size w eb) (hw : Frm (fun _ => False) w0 w) (vi : Value) (l : List Plain) (hv : ImgRd w vi l) (hl : l.length ≤ 4398046511104) (hd : ∀ p, p ∈ l → ∀ x, x ∈ p.data → 0 ≤ x ∧ x < 256)
    (hdl : ∀ p, p ∈ l → p.data.length ≤ 140737488355328) (hnm : ∀ p, p ∈ l → p.name.size ≤ 9223372036854775807) (As : Option Addr) (os : List OpS) (cs : Nat) (hos : opK.C w0 As os.length os) (hcs : os.length ≤ cs) (hok : ∀ o, o ∈ os → OpOk o) (hod : ∀ o, o ∈ os → o.data.length ≤ 140737488355328) :
    Calls Tryz.prog 38 #[vi, .slice As os.length cs] w fun e w' => ∃ b lab n m, e = .returned (dptr b) ∧ Live w.heap.size w' b lab eb l7 n m (play (playStart (decide (Dm.Good l)) l) os).1 ∧ n ≤ 1052672 ∧ m ≤ 1048576 ∧ Frm (fun _ => False) w w' := by
  obtain ⟨Ai, ci, rfl, hci, hCi⟩ := id hv
  have hol := hos.2.1
  -- Load, behind any draw
  have KL : Hid (∀ W, Frm (fun _ => False) w W → Calls Tryz.prog 19 #[.agg #[.slice Ai l.length ci]] W fun e w' => Frm (fun _ => False) W w' ∧ ((Dm.Good l ∧ ∃ b A lab, e = .returned (.tuple #[dptr b, .nilIface]) ∧ DiskAt W.heap.size w' b A lab (Disk.load l)) ∨ (¬ Dm.Good l ∧ e = .returned (.tuple #[.pointer none, errV eb 10])))) :=
    fun W hW => load_calls ((h15.frm hW (fun _ h => h.elim)).up hW.size).errs l7_10 l Ai ci (Kd.C_below hCi (hW.below (fun _ h => h.elim) (Nat.le_refl _))) hci hl hdl hnm
  have KB : Hid (∀ W, Frm (fun _ => False) w W → Calls Tryz.prog 22 #[.agg #[.slice Ai l.length ci]] W fun e w' => e = .returned (.int .i64 (imgBytes l : Nat)) ∧ Frm (fun _ => False) W w') :=
    fun W hW => bytes_calls W _ l (hv.frm hW) (by omega) hdl
  have KN := Lib.hid (fun w => new_calls w)
  obtain ⟨st, hst⟩ : ∃ st, st = playStart (decide (Dm.Good l)) l := ⟨_, rfl⟩
  have hbl : imgBytes l ≤ 9223372036854775807 := by
    have : ∀ (l : List Plain) (n : Nat), (∀ p, p ∈ l → p.data.length ≤ 140737488355328) → n ≤ 4398046511104 → bytesTo l n ≤ 145135534866432 := by
      intro l
      induction l with
      | nil => intro n _ hn; unfold bytesTo; omega
      | cons p l ih =>
        intro n hd hn
        unfold bytesTo
        split
        · rename_i h1
          have h2 := hd p List.mem_cons_self
          rcases Nat.lt_or_ge 4398046511104 (n + p.data.length) with h3 | h3
          · have h4 : bytesTo l (n + p.data.length) = n + p.data.length := by
              cases l with
              | nil => rfl
              | cons q l => unfold bytesTo; rw [if_neg (by omega)]
            rw [h4]; omega
          · exact ih _ (fun q hq => hd q (List.mem_cons_of_mem _ hq)) h3
        · omega
    have := this l l.length hdl hl
    unfold imgBytes; omega
  have HST := Lib.hid hst
  rw [← hst]
  clear hst
  have H15 := Lib.hid h15
  have HOS := Lib.hid hos
  have HOK := Lib.hid (And.intro hok hod)
  have HD := Lib.hid hd
  clear h15 hos hok hod hd hdl hnm hv hCi
  go_enter Tryz.func38, Tryz.ntmps38
  go_upto_region 3 with (first
    | (go_at_call 19; refine (KL.out _ ((Frm.refl _ _).alloc _)).mono ?_; rintro e w1 ⟨hf1, h1⟩; have h1' : ∃ dv ev, e = .returned (.tuple #[dv, ev]) ∧ ((Dm.Good l ∧ ev = .nilIface ∧ ∃ b A lab, dv = dptr b ∧ DiskAt (w.heap.size + 1) w1 b A lab (Disk.load l)) ∨ (¬ Dm.Good l ∧ ∃ r, ev = .iface 228 (.pointer (some r)))) := (by rcases h1 with ⟨hg, b, A, lab, e1, e2⟩ | ⟨hg, e1⟩; exact ⟨_, _, e1, .inl ⟨hg, rfl, b, A, lab, rfl, by simpa using e2⟩⟩; exact ⟨_, _, e1, .inr ⟨hg, _, errV_pos eb 10 (by decide)⟩⟩); obtain ⟨dv, ev, rfl, h1x⟩ := h1'; have HL1 := Lib.hid (And.intro hf1 h1x); have x1 : w1.cell? ⟨w.heap.size, 0, none⟩ = some (.slice Ai l.length ci) := cell_of ((hf1.block _ (by simp) id).trans blk_alloc) rfl; clear hf1 h1 h1x)
    | (go_at_call 22; refine (KB.out _ (((Frm.refl _ _).alloc _).trans HL1.out.1 (fun _ _ h => h))).mono ?_; rintro e w2 ⟨rfl, hf2⟩; have HL2 := Lib.hid hf2; clear hf2))
  obtain ⟨bo, hbo⟩ : ∃ bo : Bool, bo = true ↔ ¬ (Dm.Good l ∧ imgBytes l ≤ 1048576) := ⟨decide _, decide_eq_true_iff⟩
  have HBO := Lib.hid hbo
  clear hbo
  go_cut [22] from 17 to 22 (fun t wx => t = .bool bo ∧ wx = w2)
  case first =>
    rcases HL1.out.2 with ⟨hg, rfl, _⟩ | ⟨hg, r, rfl⟩
    · by_cases hle : imgBytes l ≤ 1048576
      · have hz : ¬ 1048576 < imgBytes l := by omega
        have e : bo = false := by
          cases bo with
          | false => rfl
          | true => exact absurd ⟨hg, hle⟩ (HBO.out.1 rfl)
        have HE := Lib.hid e
        clear e hle hg
        go_wp2
        go_meet
        case rel => exact ⟨by rw [HE.out]; first | rfl | (simp [hz]; omega), rfl⟩
      · have hz : 1048576 < imgBytes l := by omega
        have e : bo = true := HBO.out.2 (fun h => hle h.2)
        have HE := Lib.hid e
        clear e hle hg
        go_wp2
        go_meet
        case rel => exact ⟨by rw [HE.out]; first | rfl | (simp [hz]; omega), rfl⟩
    · have e : bo = true := HBO.out.2 (fun h => hg h.1)
      have HE := Lib.hid e
      clear e hg
      go_wp2
      go_meet
      case rel => exact ⟨by rw [HE.out], rfl⟩
  case rest =>
   obtain ⟨rfl, rfl⟩ := hcut
   go_upto_if 22 with (fail)
   go_cut [5, 7] from 5 to 23 (fun d s wx => ∃ b, d = dptr b ∧ s = .int .i64 (st.2 : Nat) ∧ PlayInv w wx b eb st 0)
   case first =>
    have hfrm : Frm (fun _ => False) w wc := (((Frm.refl _ _).alloc _).trans HL1.out.1 (fun _ _ h => h)).trans HL2.out (fun _ _ h => h)
    have h15e : ErrsAt w.heap.size wc eb l7 := (H15.out.frm hfrm (fun _ h => h.elim)).errs
    cases bo with
    | true =>
      have hb := HBO.out.1 rfl
      have e : st = (Disk.new, 0) := by rw [HST.out]; unfold playStart; rw [if_neg (fun h => hb ⟨of_decide_eq_true h.1, h.2⟩)]
      have hpi : PlayInv w (wBorn wc) (wc.heap.size + 2) eb st 0 := by
        rw [e]
        exact ⟨hfrm.trans (Frm.of_below (born_below wc) (fun _ => False)) (fun _ _ h => h), ⟨_, 0, Live.bornB h15e hfrm.size (.small (by omega) (by omega)), by omega, by omega⟩, by simp⟩
      have HPI := Lib.hid hpi
      have HE := Lib.hid e
      clear hpi e hb hfrm h15e
      go_wp2_with (first | (go_at_call 11; refine (KN.out _).mono ?_; rintro e w3 ⟨rfl, rfl⟩))
      go_meet
      case rel => exact ⟨_, rfl, by rw [HE.out]; rfl, HPI.out⟩
    | false =>
      have hgl : Dm.Good l ∧ imgBytes l ≤ 1048576 := Classical.byContradiction fun h => by
        have := HBO.out.2 h
        cases this
      have e : st = (Disk.load l, imgBytes l) := by rw [HST.out]; unfold playStart; rw [if_pos ⟨decide_eq_true hgl.1, hgl.2⟩]
      rcases HL1.out.2 with ⟨hg, rfl, b, A, lab, rfl, hdk⟩ | ⟨hg, _⟩
      · have hpi : PlayInv w wc b eb st 0 := by
          rw [e]
          refine ⟨hfrm, ⟨lab, imgBytes l, ⟨⟨A, (hdk.frame HL2.out (fun _ h => h.elim)).lower (by simp)⟩, h15e, Inv.load hg HD.out, Sz.load (by have := imgBytes_len hgl.2; omega) (imgBytes_mem hgl.2), .small (by omega) (by omega)⟩, hgl.2, Nat.le_refl _⟩, ?_⟩
          simp only []; omega
        have HPI := Lib.hid hpi
        have HE := Lib.hid e
        clear hpi e hgl hdk hg hfrm h15e
        unfold dptr
        go_wp2
        go_meet
        case rel => exact ⟨b, rfl, by rw [HE.out], HPI.out⟩
      · exact absurd hgl.1 hg
   case rest =>
    obtain ⟨b, rfl, rfl, hpi⟩ := hcut
    have HPI := Lib.hid hpi
    clear hpi
    obtain ⟨S, hS⟩ : ∃ S : Nat → Disk × Nat, ∀ i, S i = (os.take i).foldl playOne st := ⟨_, fun _ => rfl⟩
    have hS0 : S 0 = st := hS 0
    have hSs : ∀ i o, os[i]? = some o → S (i + 1) = playOne (S i) o := fun i o ho => by
      rw [hS, hS, List.take_add_one, ho, List.foldl_append]; rfl
    have hSe : ∀ i, (i = os.length ∨ i = 4096) → i ≤ os.length → i ≤ 4096 → S i = play st os := fun i hi h1 h2 => by
      rw [hS]
      unfold play
      rcases hi with rfl | rfl
      · rw [List.take_length, List.take_of_length_le h2]
      · rfl
    have HS := Lib.hid (And.intro hSs hSe)
    rw [← hS0] at HPI ⊢
    clear hS hS0 hSs hSe KL KB HL1 HL2 HBO HST KN x1
    go_wp2
    go_loopw [5, 7, 8] (fun d s v wr => ∃ i b, v = .int .i64 (i : Nat) ∧ i ≤ os.length ∧ i ≤ 4096 ∧ d = dptr b ∧ s = .int .i64 ((S i).2 : Nat) ∧ PlayInv w wr b eb (S i) i) (fun _ _ v _ => 4096 - (intOf v).toNat)
    case atStart => exact ⟨0, b, rfl, Nat.zero_le _, Nat.zero_le _, rfl, rfl, HPI.out⟩
    case round =>
      obtain ⟨i, b, rfl, hi1, hi2, rfl, rfl, hpi⟩ := hrel
      have HP := Lib.hid hpi
      clear hpi
      by_cases hlt : i < os.length
      · by_cases hlt2 : i < 4096
        · obtain ⟨o, ho⟩ : ∃ o, os[i]? = some o := ⟨_, List.getElem?_eq_getElem hlt⟩
          have hom := List.mem_of_getElem? ho
          have hfw : Frm (fun _ => False) w0 wr := hw.trans HP.out.frm (fun _ _ h => h)
          obtain ⟨ad, A1, c1, A2, c2, A3, c3, rfl, k0, k1, k2, k3, k4, k5, k6, k7, k8, hin, hfs⟩ := op_cells hfw HOS.out ho
          have hst := HS.out.1 i o ho
          have hzb : (S i).2 + o.data.length ≤ 4611686018427387904 := by
            have h1 := HP.out.sz
            have h2 := HOK.out.2 o hom
            have h3 : i * 140737488355328 ≤ 4096 * 140737488355328 := Nat.mul_le_mul_right _ (by omega)
            omega
          have hic : i < cs := by omega
          obtain ⟨z, hz⟩ : ∃ z, z = (S i).2 := ⟨_, rfl⟩
          rw [← hz] at hzb ⊢
          have HZ := Lib.hid hz
          have HST := Lib.hid hst
          have HIN := Lib.hid (And.intro hin (And.intro hfs (And.intro hom ho)))
          clear hz hst hin hfs hom ho hfw
          by_cases hk2 : o.kind = 2
          · rw [hk2] at k0
            by_cases hgt : 1048576 < z + o.data.length
            · have hgt2 : ((1048576 : Int) < (z : Int) + (o.data.length : Int)) := by omega
              have hnx : S (i + 1) = ((S i).1, z + o.data.length) := by
                rw [HST.out]; unfold playOne; rw [← HZ.out, if_pos ⟨hk2, hgt⟩]
              have HN := Lib.hid hnx
              clear hk2 hnx
              go_wp2
              obtain ⟨lab, m, hL, hm1, hm2⟩ := HP.out.live
              refine ⟨⟨i + 1, b, by go_num, by omega, by omega, rfl, by rw [HN.out]; go_num, ?_⟩, by simp [intOf]; omega⟩
              rw [HN.out]
              refine ⟨HP.out.frm.alloc _, ⟨lab, m, ((hL.frm ((Frm.refl _ _).alloc _)).grow (by omega) (Nat.le_refl _) (.small (by omega) (by omega))), hm1, by have := HZ.out; simp only []; omega⟩, ?_⟩
              have h1 := HP.out.sz
              rw [← HZ.out] at h1
              exact sz_step h1 (HOK.out.2 o HIN.out.2.2.1)
            · have hle : ¬ ((1048576 : Int) < (z : Int) + (o.data.length : Int)) := by omega
              have hnx : S (i + 1) = (((S i).1.ask o).2, z + o.data.length) := by
                rw [HST.out]; unfold playOne; rw [← HZ.out, if_neg (fun h => hgt h.2), if_neg (by omega), if_pos hk2]
              have hin' := HIN.out.1
              rw [hk2] at hin'
              have KA := Lib.hid (HP.out.asked hw H15.out ((Frm.refl _ wr).alloc (.cells #[.int .i64 2, .string o.name, .string o.to_, .slice A1 o.data.length c1, .int .i64 o.n, .slice A2 o.fails.length c2, .int .i64 o.cut, .slice A3 o.fs.length c3, .int .i64 o.fn] 55)) o _ hin' (HOK.out.1 o HIN.out.2.2.1) hlt2 (fun _ => by rw [← HZ.out]; omega))
              have HN := Lib.hid hnx
              have HK2 := Lib.hid hk2
              clear hk2 hnx hin'
              unfold dptr at KA ⊢
              go_wp2_with (first | (go_at_call 25; refine KA.out.mono ?_; rintro e w1 ⟨av, rfl, hpi⟩; have HPI := Lib.hid (hpi _ rfl _ rfl); clear hpi))
              refine ⟨⟨i + 1, b, by go_num, by omega, by omega, rfl, by rw [HN.out]; go_num, ?_⟩, by simp [intOf]; omega⟩
              have := HPI.out
              rw [if_pos HK2.out, ← HZ.out] at this
              rw [HN.out]; exact this
          · have hb2 : (o.kind == 2) = false := beq_eq_false_iff_ne.2 hk2
            by_cases hk16 : o.kind = 16
            · rw [hk16] at k0
              have hnx : S (i + 1) = (Disk.load ((S i).1.crash o.fs o.fn), z) := by
                rw [HST.out]; unfold playOne; rw [← HZ.out, if_neg (fun h => hk2 h.1), if_pos hk16]
              have HN := Lib.hid hnx
              obtain ⟨lab, m, hL, hm1, hm2⟩ := HP.out.live
              have hLw : Live w.heap.size (wr.alloc (.cells #[.int .i64 16, .string o.name, .string o.to_, .slice A1 o.data.length c1, .int .i64 o.n, .slice A2 o.fails.length c2, .int .i64 o.cut, .slice A3 o.fs.length c3, .int .i64 o.fn] 55)) b lab eb l7 (1048576 + i) m (S i).1 := hL.frm ((Frm.refl _ _).alloc _)
              have hfw : Frm (fun _ => False) w0 (wr.alloc (.cells #[.int .i64 16, .string o.name, .string o.to_, .slice A1 o.data.length c1, .int .i64 o.n, .slice A2 o.fails.length c2, .int .i64 o.cut, .slice A3 o.fs.length c3, .int .i64 o.fn] 55)) := (hw.trans HP.out.frm (fun _ _ h => h)).alloc _
              have hsz : w.heap.size ≤ (wr.alloc (.cells #[.int .i64 16, .string o.name, .string o.to_, .slice A1 o.data.length c1, .int .i64 o.n, .slice A2 o.fails.length c2, .int .i64 o.cut, .slice A3 o.fs.length c3, .int .i64 o.fn] 55)).heap.size := (HP.out.frm.alloc _).size
              have KC := Lib.hid (hLw.crash o.fs o.fn A3 c3 (fun j hj => by obtain ⟨ad, e, hc⟩ := HIN.out.2.1 j hj; exact ⟨ad, e, frm_cell hfw hc⟩) (HOK.out.1 o HIN.out.2.2.1).fs)
              have KR : Hid (∀ w1 v, Frm (fun _ => False) (wr.alloc (.cells #[.int .i64 16, .string o.name, .string o.to_, .slice A1 o.data.length c1, .int .i64 o.n, .slice A2 o.fails.length c2, .int .i64 o.cut, .slice A3 o.fs.length c3, .int .i64 o.fn] 55)) w1 → ImgRd w1 v ((S i).1.crash o.fs o.fn) → Calls Tryz.prog 19 #[v] w1 fun e w' => ∃ b' lab', e = .returned (.tuple #[dptr b', .nilIface]) ∧ Live w.heap.size w' b' lab' eb l7 (1048576 + i) m (Disk.load ((S i).1.crash o.fs o.fn)) ∧ Frm (fun _ => False) w1 w') :=
                fun w1 v hf1 hv => (reload hLw hsz hf1 o.fs o.fn v hv).mono (by rintro e w' ⟨b', lab', h1, h2, h3, _⟩; exact ⟨b', lab', h1, h2, h3⟩)
              have HM := Lib.hid (And.intro hm1 hm2)
              clear hk2 hk16 hnx hL hLw hfw hsz hm1 hm2
              unfold dptr at KC ⊢
              go_wp2_with (first
                | (go_at_call 17; refine KC.out.mono ?_; rintro e w1 ⟨v, rfl, hv, hf1⟩; have KL := Lib.hid (KR.out w1 v hf1 hv.rd); have HF1 := Lib.hid hf1; clear hv hf1)
                | (go_at_call 19; refine KL.out.mono ?_; rintro e w2 ⟨b', lab', rfl, hl2, hf2⟩; unfold dptr; have HL := Lib.hid (And.intro hl2 hf2); clear hl2 hf2))
              refine ⟨⟨i + 1, b', by go_num, by omega, by omega, rfl, by rw [HN.out], ?_⟩, by simp [intOf]; omega⟩
              rw [HN.out]
              refine ⟨((HP.out.frm.alloc _).trans HF1.out (fun _ _ h => h)).trans HL.out.2 (fun _ _ h => h), ⟨lab', m, HL.out.1.grow (by omega) (Nat.le_refl _) (.small (by omega) (by have := HM.out.1; omega)), HM.out.1, by have := HZ.out; have := HM.out.2; simp only []; omega⟩, ?_⟩
              have h1 := HP.out.sz
              rw [← HZ.out] at h1
              exact sz_step (d := 0) h1 (by omega)
            · have hb16 : (o.kind == 16) = false := beq_eq_false_iff_ne.2 hk16
              have hnx : S (i + 1) = (((S i).1.ask o).2, z) := by
                rw [HST.out]; unfold playOne; rw [← HZ.out, if_neg (fun h => hk2 h.1), if_neg hk16, if_neg hk2]
              have KA := Lib.hid (HP.out.asked hw H15.out ((Frm.refl _ wr).alloc (.cells #[.int .i64 o.kind, .string o.name, .string o.to_, .slice A1 o.data.length c1, .int .i64 o.n, .slice A2 o.fails.length c2, .int .i64 o.cut, .slice A3 o.fs.length c3, .int .i64 o.fn] 55)) o _ HIN.out.1 (HOK.out.1 o HIN.out.2.2.1) hlt2 (fun h => absurd h hk2))
              have HN := Lib.hid hnx
              have HK2 := Lib.hid hk2
              clear hk2 hk16 hnx
              unfold dptr at KA ⊢
              go_wp2_with (first | (go_at_call 25; refine KA.out.mono ?_; rintro e w1 ⟨av, rfl, hpi⟩; have HPI := Lib.hid (hpi _ rfl _ rfl); clear hpi))
              refine ⟨⟨i + 1, b, by go_num, by omega, by omega, rfl, by rw [HN.out], ?_⟩, by simp [intOf]; omega⟩
              have := HPI.out
              rw [if_neg HK2.out, ← HZ.out] at this
              rw [HN.out]; exact this
        · obtain rfl : i = 4096 := by omega
          have he := HS.out.2 4096 (.inr rfl) hi1 hi2
          have HE := Lib.hid he
          clear he
          go_wp2
          go_ret
          obtain ⟨lab, m, hL, hm1, hm2⟩ := HP.out.live
          rw [HE.out] at hL
          exact ⟨b, lab, _, m, rfl, hL, by omega, hm1, HP.out.frm⟩
      · obtain rfl : i = os.length := by omega
        have he := HS.out.2 os.length (.inl rfl) hi1 hi2
        have HE := Lib.hid he
        clear he
        go_wp2
        go_ret
        obtain ⟨lab, m, hL, hm1, hm2⟩ := HP.out.live
        rw [HE.out] at hL
        exact ⟨b, lab, _, m, rfl, hL, by omega, hm1, HP.out.frm⟩
end Go.Proofs.YtglhedahannjiaaGreatDoor.Dw
