/- A part of the proof of segmentMemoryUpto_holds: Sa, So, Ls, Hv, Qs, Aw. No condition. -/
import Derived.Test.YtkmmlfphcfcbgaaGreatDoorC25

/- Appending to a segment; cutting it. -/
namespace Go.Proofs.YtkmmlfphcfcbgaaGreatDoor.Dw
open Go.RowKit Go.ChangeMaps Go.Proofs.YtkmmlfphcfcbgaaGreatDoor.Mp Go.Proofs.YtkmmlfphcfcbgaaGreatDoor.Dm Go.Proofs.YtkmmlfphcfcbgaaGreatDoor.Da Go.Shelf
open Go.Proofs.YtkmmlfphcfcbgaaGreatDoor.Sg (SegS packE)
open Go.Proofs.YtkmmlfphcfcbgaaGreatDoorW.PrintWords (ReadsInt string_of_reads)
set_option linter.unusedVariables false
set_option linter.unusedSimpArgs false
set_option linter.unusedSectionVars false
section
variable {B : Nat} {w : World} {b : Nat} {lab : Nat → Option Lb} {eb : Nat → Addr} {L : List Err} {n m : Nat} {D : Disk} {sb : Nat} {s : SegS}
theorem Live.low_of (h : Live B w b lab eb L n m D) {k : Nat} (hk : w.heap.size ≤ k) : lab k = none := by
  obtain ⟨A, h1⟩ := h.dsk
  cases hl : lab k with
  | none => rfl
  | some p => exact absurd (h1.base k p hl).2 (by omega)
set_option maxRecDepth 100000 in
theorem append_sick (h : SegL B w b lab eb L n m D sb s) (hs : s.sick = true ∨ s.whole = false) (A : Option Addr) (k c : Nat) : Calls Tryz.prog 14 #[segP sb, .slice A k c] w fun e w' => e = .returned (errV eb 13) ∧ w' = w := by
  obtain ⟨c0, c1, c2, c3, c4, c5⟩ := h.cell
  have e13 : w.cell? ⟨2, 0, none⟩ = some (errV eb 13) := h.err 13 (by decide)
  by_cases hs1 : s.sick = true
  · rw [hs1] at c5
    clear h hs hs1
    unfold segP
    go_enter Tryz.func14, Tryz.ntmps14
    go_wp2
    go_ret
    exact ⟨rfl, rfl⟩
  · have hs2 : s.whole = false := hs.resolve_left hs1
    have hs3 : s.sick = false := by simpa using hs1
    rw [hs2] at c4
    rw [hs3] at c5
    clear h hs hs1 hs2 hs3
    unfold segP
    go_enter Tryz.func14, Tryz.ntmps14
    go_wp2
    go_ret
    exact ⟨rfl, rfl⟩
set_option maxRecDepth 100000 in
theorem append_none (h : SegL B w b lab eb L n m D sb s) (hs : s.sick = false) (hw : s.whole = true) (A : Option Addr) (c : Nat) : Calls Tryz.prog 14 #[segP sb, .slice A 0 c] w fun e w' => e = .returned .nilIface ∧ w' = w := by
  obtain ⟨c0, c1, c2, c3, c4, c5⟩ := h.cell
  rw [hw] at c4
  rw [hs] at c5
  clear h hs hw
  unfold segP
  go_enter Tryz.func14, Tryz.ntmps14
  go_wp2
  go_ret
  exact ⟨rfl, rfl⟩
set_option maxRecDepth 100000 in
set_option maxHeartbeats 1000000 in
/-- Records that Pack refuses. -/
theorem append_refuse (h : SegL B w b lab eb L n m D sb s) (hs : s.sick = false) (hw : s.whole = true) (A : Option Addr) (c : Nat) (rs : List Sg.Bytes) (hx : RecsAt w A rs) (hc : rs.length ≤ c) (hl : rs.length ≤ 68719476736) (hb : ∀ r, r ∈ rs → ∀ x, x ∈ r → 0 ≤ x ∧ x < 256) (h0 : rs ≠ []) (hp : (packE s.next rs).1 ≠ 0) :
    Calls Tryz.prog 14 #[segP sb, .slice A rs.length c] w fun e w' => e = .returned (errV eb (packE s.next rs).1) ∧ Frm (fun _ => False) w w' := by
  obtain ⟨c0, c1, c2, c3, c4, c5⟩ := h.cell
  rw [hw] at c4
  rw [hs] at c5
  have KP := Lib.hid (pack_calls h.env.crc h.live.ers (h.env.sub 1 (by decide)) (h.env.sub 4 (by decide)) s.next A c rs hx hc (by have := h.nxt; omega) hl hb)
  obtain ⟨N, hN⟩ : ∃ N, N = rs.length := ⟨_, rfl⟩
  have hN0 : ¬ N = 0 := fun e => h0 (List.eq_nil_of_length_eq_zero (by omega))
  have HP : Hid ((packE s.next rs).1 ≠ 0) := Lib.hid hp
  unfold Packs at KP
  rw [← hN] at KP ⊢
  have hce : errV eb (packE s.next rs).1 = .iface 311 (.pointer (some (eb (packE s.next rs).1))) := by unfold errV; rw [if_neg hp]
  rw [hce] at KP ⊢
  generalize packE s.next rs = pe at *
  clear h hs hw hx hc hb h0 hp hN hce HP
  unfold segP
  go_enter Tryz.func14, Tryz.ntmps14
  go_wp2_with (go_at_call 47; (with_reducible refine KP.out.mono ?_); rintro e w1 ⟨p, cap, rfl, hr, hf⟩; have H1 := Lib.hid hf; clear hr hf)
  go_ret
  exact ⟨rfl, H1.out⟩
set_option maxRecDepth 100000 in
set_option maxHeartbeats 1000000 in
/-- Records that Pack takes. -/
theorem append_goes (h : SegL B w b lab eb L n m D sb s) (hs : s.sick = false) (hw : s.whole = true) (A : Option Addr) (c : Nat) (rs : List Sg.Bytes) (hx : RecsAt w A rs) (hc : rs.length ≤ c) (hl : rs.length ≤ 68719476736) (hb : ∀ r, r ∈ rs → ∀ x, x ∈ r → 0 ≤ x ∧ x < 256) (h0 : rs ≠ []) (hp : (packE s.next rs).1 = 0)
    (hf : DFit (n + 1) (m + (packE s.next rs).2.length)) (hbl : s.blocks + (packE s.next rs).2.length / 512 ≤ 4398046511104) :
    Calls Tryz.prog 14 #[segP sb, .slice A rs.length c] w fun e w' => e = .returned (errV eb (D.append s.nm (packE s.next rs).2).1) ∧ NextS B w lab w' b eb L (n + 1) (m + (packE s.next rs).2.length) (D.append s.nm (packE s.next rs).2).2 sb (if (D.append s.nm (packE s.next rs).2).1 = 0 then s.more rs else s.met (D.append s.nm (packE s.next rs).2).1) := by
  obtain ⟨c0, c1, c2, c3, c4, c5⟩ := h.cell
  rw [hw] at c4
  rw [hs] at c5
  have KP := Lib.hid (pack_calls h.env.crc h.live.ers (h.env.sub 1 (by decide)) (h.env.sub 4 (by decide)) s.next A c rs hx hc (by have := h.nxt; omega) hl hb)
  obtain ⟨p1, p2, p3⟩ := Sg.packE_ok h0 hp
  have hby : ∀ x, x ∈ (packE s.next rs).2 → 0 ≤ x ∧ x < 256 := Sg.packE_byte hb
  have hnx : s.next + rs.length ≤ 9223372036854775807 := by have := p1.2.2; omega
  obtain ⟨N, hN⟩ : ∃ N, N = rs.length := ⟨_, rfl⟩
  have hN0 : ¬ N = 0 := fun e => h0 (List.eq_nil_of_length_eq_zero (by omega))
  unfold Packs at KP
  rw [hp, errV_zero] at KP
  rw [← hN] at KP ⊢
  have HM : Hid (s.more rs = { s with next := s.next + N, blocks := s.blocks + (packE s.next rs).2.length / 512 }) := Lib.hid (by unfold SegS.more; rw [p3, hN])
  rw [HM.out]
  have hdl : (packE s.next rs).2.length ≤ 4398046511104 := by have := hf.fm; omega
  have hnx2 : s.next + N ≤ 9223372036854775807 := by omega
  obtain ⟨M, hM⟩ : ∃ M, M = (packE s.next rs).2.length := ⟨_, rfl⟩
  have HMM := Lib.hid hM
  rw [← hM] at KP hf hbl hdl ⊢
  generalize (packE s.next rs).2 = data at *
  -- the disk's append
  have KS : ∀ W p cap, Frm (fun _ => False) w W → W.ownsRow w.heap.size 5 1 (.slice p M cap) M (u8s data) → Calls Tryz.prog 49 #[dptr b, .string s.nm, .slice p M cap] W fun e w' => e = .returned (errV eb (D.append s.nm data).1) ∧ NextS B w lab w' b eb L (n + 1) (m + M) (D.append s.nm data).2 sb s := fun W p cap hW hr => by
    have hcc : M ≤ cap := by
      rcases hr.2 with ⟨hv, he⟩ | ⟨g, cap', cur, hv, _, _, h1, _⟩
      · simp only [Value.slice.injEq] at hv
        omega
      · simp only [Value.slice.injEq] at hv
        obtain ⟨_, _, rfl⟩ := hv
        exact h1
    have hG : Given W lab (.slice p data.length cap) data := Given.own (by rw [← hM]; exact hr) (fun g hg => h.live.low_of (own_low hr (by rw [hM]; exact hg)).1)
    have hq := (h.frm hW).live.appendW s.nm p cap data (by rw [← hM]; exact hf) hG (by rw [← hM]; exact hcc) hby
    rw [← hM] at hq
    refine hq.mono ?_
    rintro e w' ⟨rfl, hn⟩
    exact ⟨rfl, ((h.frm hW).turn hn).from_ hW⟩
  have KS2 := Lib.hid KS
  clear KS
  have S0 : Hid (∀ W, Frm (fun _ => False) w W → W.cell? ⟨sb, 0, none⟩ = some (dptr b) ∧ W.cell? ⟨sb, 1, none⟩ = some (.string s.nm)) := Lib.hid (fun W hW => ⟨(h.frm hW).cell.1, (h.frm hW).cell.2.1⟩)
  have KM := Lib.hid (fun (W : World) (hW : NextS B w lab W b eb L (n + 1) (m + M) (D.append s.nm data).2 sb s) => hW.met_calls (D.append s.nm data).1)
  have ZZ : Hid (∀ W (s' : SegS), s'.nm = s.nm → NextS B w lab W b eb L (n + 1) (m + M) (D.append s.nm data).2 sb s' → W.cell? ⟨sb, 0, none⟩ = some (dptr b) ∧ W.cell? ⟨sb, 1, none⟩ = some (.string s.nm)) := Lib.hid (fun W s' hs hW => by
    obtain ⟨lab', h1⟩ := hW.seg
    exact ⟨h1.cell.1, hs ▸ h1.cell.2.1⟩)
  have HBD : Hid (s.nm.size ≤ 9223372036854775807 ∧ s.sick = false) := Lib.hid ⟨h.nm, hs⟩
  generalize (D.append s.nm data).1 = ca at *
  generalize (D.append s.nm data).2 = D2 at *
  have hmx : maxLen = 9223372036854775807 := by decide
  have hM9 : M ≤ 9223372036854775807 := by omega
  clear h hs hw hx hc hb h0 hp hN hM p1 p2 p3 hby
  unfold segP at *
  by_cases hca : ca = 0
  · subst hca
    rw [if_pos rfl]
    have TT : Hid (∀ W, NextS B w lab W b eb L (n + 1) (m + M) D2 sb (s.met 0) → W.cell? ⟨sb, 2, none⟩ = some (.int .u64 s.next) ∧ W.cell? ⟨sb, 3, none⟩ = some (.int .i64 s.blocks) ∧ W.frozen? ⟨sb, 2, none⟩ = false ∧ W.frozen? ⟨sb, 3, none⟩ = false ∧
        NextS B w lab ((W.setCell ⟨sb, 2, none⟩ (.int .u64 ((s.next : Int) + (N : Int)))).setCell ⟨sb, 3, none⟩ (.int .i64 ((s.blocks : Int) + (M : Int) / 512))) b eb L (n + 1) (m + M) D2 sb { s with next := s.next + N, blocks := s.blocks + M / 512 }) := Lib.hid (fun W hW => by
      obtain ⟨lab1, h1⟩ := hW.seg
      refine ⟨h1.cell.2.2.1, h1.cell.2.2.2.1, h1.free 2, h1.free 3, hW.trans fun lab2 h2 => h2.put ((set_frm _ 2).setCell ⟨sb, 3, none⟩ _ (fun _ => rfl)) ?_ HBD.out.1 hnx2 hbl⟩
      rw [blk_set (blk_set h2.blk)]
      unfold segC SegS.met
      simp [HBD.out.2])
    simp only [errV_zero] at *
    go_enter Tryz.func14, Tryz.ntmps14
    go_upto_region 10 with (go_at_call 47; (with_reducible refine KP.out.mono ?_); rintro e w1 ⟨p, cap, rfl, hr, hf1⟩; have H1 := Lib.hid (And.intro hf1 hr); clear hr hf1)
    have S1 := Lib.hid (S0.out _ H1.out.1)
    have H1d : Hid (w1.drew.ownsRow w.heap.size 5 1 (.slice p M cap) M (u8s data)) := Lib.hid H1.out.2
    go_region_held3 (fun W => W.cell? ⟨sb, 0, none⟩ = some (dptr b) ∧ W.cell? ⟨sb, 1, none⟩ = some (.string s.nm))
      (first | exact S1.out | exact ZZ.out _ s rfl HX.out | exact ZZ.out _ (s.met 0) rfl HY.out | go_keep)
      (first
        | (go_at_call 49; (with_reducible refine (KS2.out _ _ _ (by first | exact H1.out.1 | exact H1.out.1.drew) (by first | exact H1.out.2 | exact H1d.out)).mono ?_); rintro e u1 ⟨rfl, f1⟩; have HX := Lib.hid f1; clear f1)
        | (go_at_call 48; (with_reducible refine (KM.out _ HX.out).mono ?_); rintro e u2 ⟨rfl, f2⟩; have HY := Lib.hid f2; clear f2))
    all_goals
      obtain ⟨d2, d3, f2, f3, hlast⟩ := TT.out _ HY.out
      have HLAST := Lib.hid hlast
      clear hlast
      go_wp2
      go_ret
      exact ⟨rfl, HLAST.out⟩
  · rw [if_neg hca]
    have hce : errV eb ca = .iface 311 (.pointer (some (eb ca))) := by unfold errV; rw [if_neg hca]
    simp only [hce] at KS2 KM ⊢
    clear hca hce
    go_enter Tryz.func14, Tryz.ntmps14
    go_upto_region 10 with (go_at_call 47; (with_reducible refine KP.out.mono ?_); rintro e w1 ⟨p, cap, rfl, hr, hf1⟩; have H1 := Lib.hid (And.intro hf1 hr); clear hr hf1)
    have S1 := Lib.hid (S0.out _ H1.out.1)
    have H1d : Hid (w1.drew.ownsRow w.heap.size 5 1 (.slice p M cap) M (u8s data)) := Lib.hid H1.out.2
    go_region_held3 (fun W => W.cell? ⟨sb, 0, none⟩ = some (dptr b) ∧ W.cell? ⟨sb, 1, none⟩ = some (.string s.nm))
      (first | exact S1.out | exact ZZ.out _ s rfl HX.out | exact ZZ.out _ (s.met ca) rfl HY.out | go_keep)
      (first
        | (go_at_call 49; (with_reducible refine (KS2.out _ _ _ (by first | exact H1.out.1 | exact H1.out.1.drew) (by first | exact H1.out.2 | exact H1d.out)).mono ?_); rintro e u1 ⟨rfl, f1⟩; have HX := Lib.hid f1; clear f1)
        | (go_at_call 48; (with_reducible refine (KM.out _ HX.out).mono ?_); rintro e u2 ⟨rfl, f2⟩; have HY := Lib.hid f2; clear f2))
    all_goals
      go_wp2
      go_ret
      exact ⟨rfl, HY.out⟩
end
end Go.Proofs.YtkmmlfphcfcbgaaGreatDoor.Dw

/- Making a segment; opening one. -/
namespace Go.Proofs.YtkmmlfphcfcbgaaGreatDoor.Dw
open Go.RowKit Go.ChangeMaps Go.Proofs.YtkmmlfphcfcbgaaGreatDoor.Mp Go.Proofs.YtkmmlfphcfcbgaaGreatDoor.Dm Go.Proofs.YtkmmlfphcfcbgaaGreatDoor.Da Go.Shelf
open Go.Proofs.YtkmmlfphcfcbgaaGreatDoor.Sg (SegS packE)
open Go.Proofs.YtkmmlfphcfcbgaaGreatDoorW.PrintWords (ReadsInt string_of_reads)
set_option linter.unusedVariables false
set_option linter.unusedSimpArgs false
set_option linter.unusedSectionVars false
set_option maxRecDepth 100000 in
theorem good_calls (w : World) (x : Nat) (h : 1 ≤ x ∧ x ≤ 4611686018427387904) : Calls Tryz.prog 92 #[.int .u64 x] w fun e w' => e = .returned (.bool true) ∧ w' = w := by
  obtain ⟨h1, h2⟩ := h
  have hd : decide ((x : Int) ≤ 4611686018427387904) = true := decide_eq_true (by omega)
  go_enter Tryz.func92, Tryz.ntmps92
  go_wp2
  go_ret
  exact ⟨rfl, rfl⟩
set_option maxRecDepth 100000 in
theorem check_calls (w : World) (b x : Nat) (h : 1 ≤ x ∧ x ≤ 4611686018427387904) : Calls Tryz.prog 45 #[dptr b, .int .u64 x] w fun e w' => e = .returned .nilIface ∧ w' = w := by
  have KG := Lib.hid (good_calls w x h)
  clear h
  unfold dptr
  go_enter Tryz.func45, Tryz.ntmps45
  go_wp2_with (go_at_call 92; (with_reducible refine KG.out.mono ?_); rintro e w1 ⟨rfl, rfl⟩)
  go_ret
  exact ⟨rfl, rfl⟩
section
variable {B : Nat} {w : World} {b : Nat} {lab : Nat → Option Lb} {eb : Nat → Addr} {L : List Err} {n m : Nat} {D : Disk}
set_option maxRecDepth 100000 in
set_option maxHeartbeats 1000000 in
/-- A new segment, where nothing fails. -/
theorem create9_calls (h : Live B w b lab eb L n m D) (he : Env B w L) (x : Nat) (hx : 1 ≤ x ∧ x ≤ 4611686018427387904) (hc : (D.create (nmOf x)).1 = 0) (hs : (D.create (nmOf x)).2.syncNames.1 = 0) (hBw : B ≤ w.heap.size) (hf : DFit (n + 1 + 1) m) :
    Calls Tryz.prog 13 #[dptr b, .int .u64 x] w fun e w' => ∃ sb, e = .returned (.tuple #[segP sb, .nilIface]) ∧ w.heap.size ≤ sb ∧ ∃ lab', SegL B w' b lab' eb L (n + 1 + 1) m (D.create (nmOf x)).2.syncNames.2 sb ⟨nmOf x, x, 0, true, false⟩ ∧ Frm (Ft lab) w w' ∧ ∀ k, k < w.heap.size → Ft lab' k → Ft lab k := by
  have KC := Lib.hid (check_calls w b x hx)
  have KN := Lib.hid (name_calls w x (by omega) he.tab)
  have hf1 : DFit (n + 1) m := ⟨by have := hf.fn; omega, hf.fm, Nat.le_trans (Nat.mul_le_mul_right _ (by omega)) hf.fw⟩
  have hnm : (nmOf x).size ≤ 9223372036854775807 := by rw [nmOf_size]; decide
  have K1 : ∀ W, Frm (fun _ => False) w W → Calls Tryz.prog 29 #[dptr b, .string (nmOf x)] W fun e w' => e = .returned .nilIface ∧ Next B W lab w' b eb L (n + 1) m (D.create (nmOf x)).2 := fun W hW => by
    refine ((h.frm hW).createW hf1 (nmOf x) hnm).mono ?_
    rintro e w' ⟨rfl, hn⟩
    exact ⟨by rw [hc]; rfl, hn⟩
  have K2 : ∀ W lab1, Live B W b lab1 eb L (n + 1) m (D.create (nmOf x)).2 → Calls Tryz.prog 46 #[dptr b] W fun e w' => e = .returned .nilIface ∧ Next B W lab1 w' b eb L (n + 1 + 1) m (D.create (nmOf x)).2.syncNames.2 := fun W lab1 h1 => by
    refine (h1.syncNamesW hf).mono ?_
    rintro e w' ⟨rfl, hn⟩
    exact ⟨by rw [hs]; rfl, hn⟩
  have K1 := Lib.hid K1
  have K2 := Lib.hid K2
  have HH := Lib.hid (And.intro h he)
  have HX := Lib.hid (And.intro hx (And.intro hnm (And.intro hc hs)))
  clear h he hx hnm hc hs hf hf1
  generalize nmOf x = nm at *
  unfold dptr at *
  go_enter Tryz.func13, Tryz.ntmps13
  go_wp2_with (first
    | (go_at_call 45; (with_reducible refine KC.out.mono ?_); rintro e w0 ⟨rfl, rfl⟩)
    | (go_at_call 44; (with_reducible refine KN.out.mono ?_); rintro e w1 ⟨rfl, hf1⟩; have H1 := Lib.hid hf1; clear hf1)
    | (go_at_call 29; (with_reducible refine (K1.out _ (H1.out.alloc _)).mono ?_); rintro e w2 ⟨rfl, lab1, hq1, hq2, hq3⟩; have HL := Lib.hid (fun hl : ¬ Ft lab w1.heap.size => (hq2.block _ (by simp) hl).trans blk_alloc); have c21 : w2.cell? ⟨w1.heap.size, 1, none⟩ = some (.string nm) := cell_of (HL.out (by unfold Ft; rw [HH.out.1.low_of H1.out.size]; simp)) rfl; have H2 := Lib.hid (And.intro hq1 (And.intro hq2 hq3)); clear hq1 hq2 hq3)
    | (go_at_call 46; (with_reducible refine (K2.out _ _ H2.out.1).mono ?_); rintro e w3 ⟨rfl, lab2, hk1, hk2, hk3⟩; have H3 := Lib.hid (And.intro hk1 (And.intro hk2 hk3)); clear hk1 hk2 hk3))
  go_ret2
  obtain ⟨hq1, hq2, hq3⟩ := H2.out
  obtain ⟨hk1, hk2, hk3⟩ := H3.out
  have hlow : ¬ Ft lab w1.heap.size := by unfold Ft; rw [HH.out.1.low_of H1.out.size]; simp
  have hsz : (w1.alloc (.cells (segC b ⟨nm, x, 0, true, false⟩) 104 (0, 0))).heap.size = w1.heap.size + 1 := by simp
  have hq2' : Frm (Ft lab) (w1.alloc (.cells (segC b ⟨nm, x, 0, true, false⟩) 104 (0, 0))) w2 := hq2
  have hlt1 : w1.heap.size < w2.heap.size := by have := hq2'.size; omega
  have hlab1 : ¬ Ft lab1 w1.heap.size := fun h => hlow (hq3 _ (by simp) h)
  have hA : Frm (Ft lab) w0 w2 := ((H1.out.mono (fun _ _ h => h.elim)).alloc _).trans hq2 (fun _ _ h => h)
  have hA3 : Frm (Ft lab) w0 w3 := hA.trans hk2 (fun i hi hl => hq3 i (by have := H1.out.size; simp; omega) hl)
  refine ⟨w1.heap.size, rfl, H1.out.size, lab2, ⟨hk1, HH.out.2.frm hA3 HH.out.1.base, (hk2.block _ hlt1 hlab1).trans (HL.out hlow), fun h => hlab1 (hk3 _ hlt1 h), Nat.le_trans hBw H1.out.size, HX.out.2.1, by have := HX.out.1; show x ≤ _; omega, by show 0 ≤ _; omega⟩, hA3, fun k hk hl => hq3 k (by have := H1.out.size; simp; omega) (hk3 k (by have := H1.out.size; omega) hl)⟩
theorem own_cap {w : World} {base : Nat} {e : TypeId} {n c : Nat} {p : Option Addr} {xs : List Value} (h : w.ownsRow base e 1 (.slice p n c) n xs) : n ≤ c := by
  rcases h.2 with ⟨hv, he⟩ | ⟨g, cap', cur, hv, _, _, h1, _⟩
  · simp only [Value.slice.injEq] at hv
    omega
  · simp only [Value.slice.injEq] at hv
    obtain ⟨_, _, rfl⟩ := hv
    exact h1
theorem own_down {w : World} {base b0 : Nat} {e : TypeId} {size n : Nat} {v : Value} {xs : List Value} (h : w.ownsRow base e size v n xs) (hb : b0 ≤ base) : w.ownsRow b0 e size v n xs := by
  refine ⟨h.1, ?_⟩
  rcases h.2 with h2 | ⟨g, cap, cur, hv, h3, r⟩
  · exact .inl h2
  · exact .inr ⟨g, cap, cur, hv, Nat.le_trans hb h3, r⟩
theorem own_readsI {w : World} {base n : Nat} {p : Option Addr} {c : Nat} {xs : List Int} (h : w.ownsRow base 3 1 (.slice p n c) n (i64s xs)) (hn : xs.length = n) (hL : n ≤ 9223372036854775807) : ReadsInt w .i64 p xs.length xs := by
  refine ⟨rfl, by omega, fun h0 => ?_⟩
  obtain ⟨g, c', e, _⟩ := row_shape h (by omega)
  simp only [Value.slice.injEq, true_and] at e
  obtain ⟨rfl, rfl⟩ := e
  refine ⟨_, rfl, fun i hi => ?_⟩
  rw [add_off, Nat.zero_add, h.cellAt i (by omega)]
  unfold i64s
  rw [List.getElem?_map, List.getElem?_eq_getElem hi, List.getD_eq_getElem?_getD, List.getElem?_eq_getElem hi]
  rfl
/-- What Open makes of a file. -/
def openS (x : Nat) (data bad : List Int) : SegS := ⟨nmOf x, x + (Sg.scanAll data bad x).1.length, (Sg.scanAll data bad x).2, decide (data.length = (Sg.scanAll data bad x).2 * 512), false⟩
set_option maxRecDepth 100000 in
set_option maxHeartbeats 2000000 in
/-- A segment that is there, opened. -/
theorem open9_calls (h : Live B w b lab eb L n m D) (he : Env B w L) (x : Nat) (hx : 1 ≤ x ∧ x ≤ 4611686018427387904) (data bad : List Int) (hr : D.read (nmOf x) = (0, data, bad)) (hBw : B ≤ w.heap.size) (hdl : data.length ≤ 4398046511104) (hbl : bad.length ≤ 4398046511104) (hby : ∀ x, x ∈ data → 0 ≤ x ∧ x < 256) :
    Calls Tryz.prog 15 #[dptr b, .int .u64 x] w fun e w' => ∃ sb p c, e = .returned (.tuple #[segP sb, .slice p (Sg.scanAll data bad x).1.length c, .nilIface]) ∧ w.heap.size ≤ sb ∧ SegL B w' b lab eb L n m D sb (openS x data bad) ∧ RecsOwn w' w.heap.size (.slice p (Sg.scanAll data bad x).1.length c) (Sg.scanAll data bad x).1 ∧ Frm (fun _ => False) w w' := by
  have KC := Lib.hid (check_calls w b x hx)
  have KN := Lib.hid (fun W (hW : Frm (fun _ => False) w W) => name_calls W x (by omega) (he.frm hW (fun _ h => h.elim)).tab)
  have KR := Lib.hid (fun W (hW : Frm (fun _ => False) w W) => (h.frm hW).read (nmOf x))
  have hcnt := Sg.scanAll_count data bad x
  have hroom := Sg.scanAll_room data bad x
  obtain ⟨N, hN⟩ : ∃ N, N = (Sg.scanAll data bad x).1.length := ⟨_, rfl⟩
  obtain ⟨M, hM⟩ : ∃ M, M = (Sg.scanAll data bad x).2 := ⟨_, rfl⟩
  obtain ⟨dl, hd⟩ : ∃ dl, dl = data.length := ⟨_, rfl⟩
  obtain ⟨bl, hb⟩ : ∃ bl, bl = bad.length := ⟨_, rfl⟩
  have KS : Hid (∀ W p c q cq, Frm (fun _ => False) w W → W.ownsRow w.heap.size 5 1 (.slice p dl c) dl (u8s data) → W.ownsRow w.heap.size 3 1 (.slice q bl cq) bl (i64s bad) → Calls Tryz.prog 50 #[.slice p dl c, .slice q bl cq, .int .u64 x] W fun e w' => ∃ v, e = .returned (.tuple #[v, .int .i64 (M : Nat)]) ∧ RecsOwn w' W.heap.size v (Sg.scanAll data bad x).1 ∧ Frm (fun _ => False) W w') := Lib.hid (fun W p c q cq hW h1 h2 => by
    have h1' := h1
    rw [hd] at h1'
    rw [hM]
    exact scan_calls (he.frm hW (fun _ h => h.elim)).crc (h.frm hW).ers (he.sub 2 (by decide)) (he.sub 3 (by decide)) (he.sub 5 (by decide)) (Nat.le_trans hBw hW.size) p q dl c bl cq data bad x (own_reads h1' rfl (by omega)) hd.symm (own_cap h1) (by omega) hby (own_readsI h2 hb.symm (by omega)) hb.symm (by omega))
  simp only [hr, errV_zero] at KR
  rw [← hd, ← hb] at KR
  have HH := Lib.hid (And.intro h (And.intro he (And.intro hBw hx)))
  have HS : Hid (openS x data bad = ⟨nmOf x, x + N, M, decide (dl = M * 512), false⟩) := Lib.hid (by unfold openS; rw [hN, hM, hd])
  have HNM := Lib.hid (And.intro hN hM)
  have hx2 : x ≤ 4611686018427387904 := hx.2
  have hN2 : N ≤ 4398046511104 := by omega
  have hM2 : M ≤ 4398046511104 := by omega
  have hd2 : dl ≤ 4398046511104 := by omega
  have HNL := Lib.hid (nmOf_size x)
  rw [← hN] at hcnt ⊢
  rw [← hM] at hroom
  rw [HS.out]
  generalize (Sg.scanAll data bad x).1 = rs at *
  generalize nmOf x = nm at *
  clear h he hx hr hBw hdl hbl hby hcnt hroom hN hM hd hb
  unfold dptr at *
  go_enter Tryz.func15, Tryz.ntmps15
  go_wp2_with (first
    | (go_at_call 45; (with_reducible refine KC.out.mono ?_); rintro e w0 ⟨rfl, rfl⟩)
    | (go_at_call 44; (with_reducible refine (KN.out _ (Frm.refl _ _)).mono ?_); rintro e w1 ⟨rfl, hf1⟩; have H1 := Lib.hid hf1; clear hf1)
    | (go_at_call 44; (with_reducible refine (KN.out _ H3.out.1).mono ?_); rintro e w4 ⟨rfl, hf4⟩; have H4 := Lib.hid hf4; clear hf4)
    | (go_at_call 38; (with_reducible refine (KR.out _ H1.out).mono ?_); rintro e w2 ⟨dv, bv, rfl, hr1, hr2, hf2⟩; obtain ⟨pd, cd, rfl⟩ := own_form hr1; obtain ⟨pb, cb, rfl⟩ := own_form hr2; have H2 := Lib.hid (And.intro (H1.out.trans hf2 (fun _ _ h => h)) (And.intro (own_down hr1 H1.out.size) (own_down hr2 H1.out.size))); clear hr1 hr2 hf2)
    | (go_at_call 50; (with_reducible refine (KS.out _ _ _ _ _ H2.out.1 H2.out.2.1 H2.out.2.2).mono ?_); rintro e w3 ⟨v3, rfl, hr3, hf3⟩; obtain ⟨p3, c3, rfl, hc3⟩ := hr3.form; rw [← HNM.out.1]; have H3 := Lib.hid (And.intro (H2.out.1.trans hf3 (fun _ _ h => h)) hr3); clear hr3 hf3))
  go_ret3
  have h4 : Frm (fun _ => False) w0 w4 := H3.out.1.trans H4.out (fun _ _ h => h)
  have h5 : Frm (fun _ => False) w0 (w4.alloc (.cells (segC b ⟨nm, x + N, M, decide (dl = M * 512), false⟩) 104 (0, 0))) := h4.alloc _
  have e1 : ((dl : Int) == (M : Int) * 512) = decide (dl = M * 512) := by
    rw [Bool.eq_iff_iff, beq_iff_eq, decide_eq_true_iff]; omega
  have e2 : (w4.alloc (.cells #[.pointer (some ⟨b, 0, none⟩), .string nm, .int .u64 ((x : Int) + (N : Int)), .int .i64 (M : Int), .bool ((dl : Int) == (M : Int) * 512), .bool false] 104 (0, 0))) = w4.alloc (.cells (segC b ⟨nm, x + N, M, decide (dl = M * 512), false⟩) 104 (0, 0)) := by rw [e1]; rfl
  refine ⟨w4.heap.size, p3, c3, rfl, h4.size, ?_⟩
  rw [e2]
  refine ⟨⟨HH.out.1.frm h5, HH.out.2.1.frm h5 (fun _ h => h.elim), blk_alloc, ?_, Nat.le_trans HH.out.2.2.1 h4.size, by show nm.size ≤ _; rw [HNL.out]; decide, by show x + N ≤ _; omega, hM2⟩, ?_, h5⟩
  · unfold Ft; rw [HH.out.1.low_of h4.size]; simp
  · rw [HNM.out.1]
    exact ((H3.out.2.frm H4.out).frm ((Frm.refl _ _).alloc _)).weaken (by have := H2.out.1.size; omega)
end
end Go.Proofs.YtkmmlfphcfcbgaaGreatDoor.Dw

/- Walks: lists of records compared. -/
namespace Go.Proofs.YtkmmlfphcfcbgaaGreatDoor.Dw
open Go.RowKit Go.ChangeMaps Go.Proofs.YtkmmlfphcfcbgaaGreatDoor.Mp Go.Proofs.YtkmmlfphcfcbgaaGreatDoor.Dm Go.Proofs.YtkmmlfphcfcbgaaGreatDoor.Da Go.Shelf
open Go.Proofs.YtkmmlfphcfcbgaaGreatDoorW.PrintWords (ReadsInt string_of_reads)
set_option linter.unusedVariables false
set_option linter.unusedSimpArgs false
set_option linter.unusedSectionVars false
theorem take_succ_eq {α : Type} {ls ms : List α} {i : Nat} (h : ls.take i = ms.take i) (h1 : i < ls.length) (h2 : i < ms.length) (he : ls[i] = ms[i]) : ls.take (i + 1) = ms.take (i + 1) := by
  rw [List.take_succ_eq_append_getElem h1, List.take_succ_eq_append_getElem h2, h, he]
theorem RecsAt.spot {w : World} {g o : Nat} {s : Option Nat} {rs : List Sg.Bytes} (h : RecsAt w (some ⟨g, o, s⟩) rs) (h0 : 0 < rs.length) : s = none := by
  obtain ⟨a, p, c, ha, h1, _⟩ := h 0 h0
  cases ha
  have := spot_none h1
  unfold Addr.add at this
  simpa using this
set_option maxHeartbeats 1000000 in
set_option maxRecDepth 100000 in
theorem lists_calls (w : World) (A1 A2 : Option Addr) (c1 c2 : Nat) (ls ms : List Sg.Bytes) (h1 : RecsAt w A1 ls) (h2 : RecsAt w A2 ms) (hl1 : ls.length ≤ 4611686018427387904) (hl2 : ms.length ≤ 4611686018427387904) (hc1 : ls.length ≤ c1) (hc2 : ms.length ≤ c2)
    (hb1 : ∀ r, r ∈ ls → ∀ x, x ∈ r → 0 ≤ x ∧ x < 256) (hb2 : ∀ r, r ∈ ms → ∀ x, x ∈ r → 0 ≤ x ∧ x < 256) :
    Calls Tryz.prog 16 #[.slice A1 ls.length c1, .slice A2 ms.length c2] w fun e w' => e = .returned (.bool (decide (ls = ms))) ∧ Frm (fun _ => False) w w' := by
  obtain ⟨n1, hn1⟩ : ∃ n, n = ls.length := ⟨_, rfl⟩
  obtain ⟨n2, hn2⟩ : ∃ n, n = ms.length := ⟨_, rfl⟩
  rw [← hn1] at hl1 hc1 ⊢
  rw [← hn2] at hl2 hc2 ⊢
  have HN := Lib.hid (And.intro hn1 hn2)
  have H12 := Lib.hid (And.intro h1 (And.intro h2 (And.intro hb1 hb2)))
  by_cases hne : n1 = n2
  · subst hne
    clear h1 h2 hn1 hn2 hb1 hb2
    have hbeq : ((n1 : Int) != (n1 : Int)) = false := by simp
    go_enter Tryz.func16, Tryz.ntmps16
    go_wp2
    go_loopw [5] (fun iv wr => ∃ i, iv = .int .i64 (i : Nat) ∧ i ≤ n1 ∧ ls.take i = ms.take i ∧ Frm (fun _ => False) w wr) (fun iv _ => n1 - (intOf iv).toNat)
    case atStart => exact ⟨0, rfl, Nat.zero_le _, by simp, Frm.refl _ _⟩
    case round =>
      obtain ⟨i, rfl, hi, htk, hfr⟩ := hrel
      have HR := Lib.hid (And.intro htk hfr)
      clear htk hfr
      by_cases hlt : i < n1
      · obtain ⟨hh1, hh2, hb1, hb2⟩ := H12.out
        obtain ⟨⟨g1, o1, s1⟩, p1, k1, rfl, q1, q2, q3⟩ := hh1 i (by have := HN.out.1; omega)
        obtain ⟨⟨g2, o2, s2⟩, p2, k2, rfl, r1, r2, r3⟩ := hh2 i (by have := HN.out.2; omega)
        obtain rfl : s1 = none := hh1.spot (by have := HN.out.1; omega)
        obtain rfl : s2 = none := hh2.spot (by have := HN.out.2; omega)
        rw [addO] at q1 r1
        obtain ⟨x, hx⟩ : ∃ x, x = ls[i]'(by have := HN.out.1; omega) := ⟨_, rfl⟩
        obtain ⟨y, hy⟩ : ∃ y, y = ms[i]'(by have := HN.out.2; omega) := ⟨_, rfl⟩
        rw [← hx] at q1 q2 q3
        rw [← hy] at r1 r2 r3
        have z1 : ∀ W, Frm (fun _ => False) w W → W.cell? ⟨g1, o1 + i, none⟩ = some (.slice p1 x.length k1) ∧ W.cell? ⟨g2, o2 + i, none⟩ = some (.slice p2 y.length k2) ∧ (convert 36 9 (.slice p1 x.length k1)).run Tryz.prog W = .ok (.string (strOfNums x)) W ∧ (convert 36 9 (.slice p2 y.length k2)).run Tryz.prog W = .ok (.string (strOfNums y)) W := fun W hW =>
          ⟨(hW.cell (World.block_lt_of_cell? _ _ q1) id).trans q1, (hW.cell (World.block_lt_of_cell? _ _ r1) id).trans r1, string_of_reads Tryz.underlying36 Tryz.underlying5 Tryz.underlying9 (reads_frm q3 hW), string_of_reads Tryz.underlying36 Tryz.underlying5 Tryz.underlying9 (reads_frm r3 hW)⟩
        have S0 := Lib.hid (z1 wr HR.out.2)
        have D0 := Lib.hid (z1 wr.drew HR.out.2.drew)
        have hstr : ((strOfNums x).toList == (strOfNums y).toList) = decide (x = y) := strBeq _ _ _ (by
          rw [decide_eq_true_iff]
          exact ⟨fun h => by rw [h], fun h => strInj (hb1 x (by rw [hx]; exact List.getElem_mem _)) (hb2 y (by rw [hy]; exact List.getElem_mem _)) h⟩)
        have HXY := Lib.hid (And.intro hx hy)
        clear q1 q2 q3 r1 r2 r3 z1 hx hy hh1 hh2 hb1 hb2
        by_cases hxy : x = y
        · rw [decide_eq_true hxy] at hstr
          have HE := Lib.hid hxy
          clear hxy
          go_upto_region 6 with (fail)
          go_region_held3 (fun W => W.cell? ⟨g1, o1 + i, none⟩ = some (.slice p1 x.length k1) ∧ W.cell? ⟨g2, o2 + i, none⟩ = some (.slice p2 y.length k2) ∧ (convert 36 9 (.slice p1 x.length k1)).run Tryz.prog W = .ok (.string (strOfNums x)) W ∧ (convert 36 9 (.slice p2 y.length k2)).run Tryz.prog W = .ok (.string (strOfNums y)) W)
            (first | exact S0.out | exact D0.out | go_keep) (fail)
          all_goals
            go_wp2
            have htk2 := take_succ_eq HR.out.1 (by have := HN.out.1; omega) (by have := HN.out.2; omega) (by rw [← HXY.out.1, ← HXY.out.2]; exact HE.out)
            exact ⟨⟨i + 1, by go_num, by omega, htk2, HR.out.2.drew⟩, by simp [intOf]; omega⟩
        · rw [decide_eq_false hxy] at hstr
          have HE := Lib.hid hxy
          clear hxy
          go_upto_region 6 with (fail)
          go_region_held3 (fun W => W.cell? ⟨g1, o1 + i, none⟩ = some (.slice p1 x.length k1) ∧ W.cell? ⟨g2, o2 + i, none⟩ = some (.slice p2 y.length k2) ∧ (convert 36 9 (.slice p1 x.length k1)).run Tryz.prog W = .ok (.string (strOfNums x)) W ∧ (convert 36 9 (.slice p2 y.length k2)).run Tryz.prog W = .ok (.string (strOfNums y)) W)
            (first | exact S0.out | exact D0.out | go_keep) (fail)
          all_goals
            go_wp2
            go_ret
            refine ⟨?_, HR.out.2.drew⟩
            have e : ¬ ls = ms := fun e => HE.out (by rw [HXY.out.1, HXY.out.2]; simp only [e])
            rw [decide_eq_false e]
            rfl
      · obtain rfl : i = n1 := by omega
        go_wp2
        go_ret
        refine ⟨?_, HR.out.2⟩
        have e : ls = ms := by
          have := HR.out.1
          rwa [List.take_of_length_le (by have := HN.out.1; omega), List.take_of_length_le (by have := HN.out.2; omega)] at this
        rw [decide_eq_true e]
        rfl
  · have hne2 : ¬ ls = ms := fun e => hne (by rw [hn1, hn2, e])
    have hd : decide (ls = ms) = false := decide_eq_false hne2
    rw [hd]
    have hbeq : ((n1 : Int) == (n2 : Int)) = false := by simp; omega
    clear h1 h2 hn1 hn2 hb1 hb2 hne2 hd
    go_enter Tryz.func16, Tryz.ntmps16
    go_wp2
    go_ret
    exact ⟨rfl, Frm.refl _ _⟩
end Go.Proofs.YtkmmlfphcfcbgaaGreatDoor.Dw

/- Walks: how much groups of records are. -/
namespace Go.Proofs.YtkmmlfphcfcbgaaGreatDoor.Dw
open Go.RowKit Go.ChangeMaps Go.Proofs.YtkmmlfphcfcbgaaGreatDoor.Mp Go.Proofs.YtkmmlfphcfcbgaaGreatDoor.Dm Go.Proofs.YtkmmlfphcfcbgaaGreatDoor.Da Go.Shelf
open Go.Proofs.YtkmmlfphcfcbgaaGreatDoor.Sg (Group heavyN groupTo recTo)
open Go.Proofs.YtkmmlfphcfcbgaaGreatDoorW.PrintWords (ReadsInt string_of_reads)
set_option linter.unusedVariables false
set_option linter.unusedSimpArgs false
set_option linter.unusedSectionVars false
/-- Groups of records that are read. -/
def GroupsAt (w : World) (A : Option Addr) (gs : List Group) : Prop :=
  ∀ j (h : j < gs.length), ∃ g o p c, A = some ⟨g, o, none⟩ ∧ w.cell? ⟨g, o + j * 2, none⟩ = some (.slice p gs[j].1.length c) ∧ w.cell? ⟨g, o + j * 2 + 1, none⟩ = some (.bool gs[j].2) ∧ gs[j].1.length ≤ c ∧ gs[j].1.length ≤ 4611686018427387904 ∧ RecsAt w p gs[j].1 ∧ ∀ r, r ∈ gs[j].1 → r.length ≤ 140737488355328 ∧ ∀ x, x ∈ r → 0 ≤ x ∧ x < 256
theorem groupTo_drop {gs : List Group} {i n : Nat} (hi : i < gs.length) : groupTo (gs.drop i) n = if n ≤ 4194304 then groupTo (gs.drop (i + 1)) (recTo gs[i].1 (n + 1)) else n := by
  rw [List.drop_eq_getElem_cons hi]; rfl
theorem recTo_drop {rs : List Sg.Bytes} {i n : Nat} (hi : i < rs.length) : recTo (rs.drop i) n = if n ≤ 4194304 then recTo (rs.drop (i + 1)) (n + (rs[i].length + 8)) else n := by
  rw [List.drop_eq_getElem_cons hi]; rfl
theorem groupTo_stop {gs : List Group} {n : Nat} (h : ¬ n ≤ 4194304) : groupTo gs n = n := by
  cases gs with
  | nil => rfl
  | cons g gs => unfold groupTo; rw [if_neg h]
theorem recTo_stop {gs : List Sg.Bytes} {n : Nat} (h : ¬ n ≤ 4194304) : recTo gs n = n := by
  cases gs with
  | nil => rfl
  | cons g gs => unfold recTo; rw [if_neg h]
set_option maxHeartbeats 1000000 in
set_option maxRecDepth 100000 in
theorem heavy_calls (w : World) (A : Option Addr) (c : Nat) (gs : List Group) (hg : GroupsAt w A gs) (hc : gs.length ≤ c) (hl : gs.length ≤ 4611686018427387904) :
    Calls Tryz.prog 11 #[.slice A gs.length c] w fun e w' => e = .returned (.bool (decide (4194304 < heavyN gs))) ∧ Frm (fun _ => False) w w' := by
  obtain ⟨N, hN⟩ : ∃ n, n = gs.length := ⟨_, rfl⟩
  rw [← hN] at hc hl ⊢
  have HN := Lib.hid hN
  have HG := Lib.hid hg
  clear hN hg
  go_enter Tryz.func11, Tryz.ntmps11
  go_wp2
  go_loopw [3, 4] (fun nv iv wr => ∃ n i, nv = .int .i64 (n : Nat) ∧ iv = .int .i64 (i : Nat) ∧ i ≤ N ∧ n ≤ 140737492549640 ∧ heavyN gs = groupTo (gs.drop i) n ∧ Frm (fun _ => False) w wr) (fun _ iv _ => N - (intOf iv).toNat)
  case atStart => exact ⟨0, 0, rfl, rfl, Nat.zero_le _, by omega, rfl, Frm.refl _ _⟩
  case round =>
    obtain ⟨n, i, rfl, rfl, hi, hn, hto, hfr⟩ := hrel
    have HT := Lib.hid (And.intro hto hfr)
    clear hto hfr
    by_cases hlt : i < N
    · by_cases hm : n ≤ 4194304
      · obtain ⟨g, o, p, c2, rfl, k1, k2, k3, k4, k5, k6⟩ := HG.out i (by have := HN.out; omega)
        obtain ⟨rs, hrs⟩ : ∃ rs, rs = (gs[i]'(by have := HN.out; omega)).1 := ⟨_, rfl⟩
        rw [← hrs] at k1 k3 k4 k5 k6
        obtain ⟨M, hM⟩ : ∃ M, M = rs.length := ⟨_, rfl⟩
        rw [← hM] at k1 k3 k4
        have HM := Lib.hid (And.intro hM hrs)
        have e1 := frmC HT.out.2 k1
        have HK := Lib.hid (And.intro k5 k6)
        have K1 := Lib.hid k1
        clear hM hrs k1 k2 k5 k6
        have HT2 : Hid (heavyN gs = groupTo (gs.drop (i + 1)) (recTo rs (n + 1)) ∧ Frm (fun _ => False) w wr) := Lib.hid ⟨by rw [HT.out.1, groupTo_drop (by have := HN.out; omega), if_pos hm, ← HM.out.2], HT.out.2⟩
        have hM2 : M ≤ 4611686018427387904 := k4
        go_wp2
        go_loopw [3, 5] (fun nv kv wx => ∃ n2 k, nv = .int .i64 (n2 : Nat) ∧ kv = .int .i64 (k : Nat) ∧ k ≤ M ∧ n2 ≤ 140737492549640 ∧ recTo rs (n + 1) = recTo (rs.drop k) n2 ∧ Frm (fun _ => False) w wx) (fun _ kv _ => M - (intOf kv).toNat)
        case atStart => exact ⟨n + 1, 0, by go_num, rfl, Nat.zero_le _, by omega, rfl, HT.out.2⟩
        case round =>
          obtain ⟨n2, k, rfl, rfl, hk, hn2, hto2, hfr2⟩ := hrel
          have HT3 := Lib.hid (And.intro hto2 hfr2)
          have e2 := frmC HT3.out.2 K1.out
          clear hto2 hfr2
          by_cases hlt2 : k < M
          · by_cases hm2 : n2 ≤ 4194304
            · obtain ⟨⟨g2, o2, s2⟩, q2, cq, rfl, r1, r2, r3⟩ := HK.out.1 k (by have := HM.out.1; omega)
              obtain rfl : s2 = none := HK.out.1.spot (by have := HM.out.1; omega)
              rw [addO] at r1
              obtain ⟨R, hR⟩ : ∃ R, R = (rs[k]'(by have := HM.out.1; omega)).length := ⟨_, rfl⟩
              rw [← hR] at r1
              have hR2 : R ≤ 140737488355328 := by rw [hR]; exact (HK.out.2 _ (List.getElem_mem _)).1
              have e3 := frmC HT3.out.2 r1
              have HT4 : Hid (recTo rs (n + 1) = recTo (rs.drop (k + 1)) (n2 + (R + 8))) := Lib.hid (by rw [HT3.out.1, recTo_drop (by have := HM.out.1; omega), if_pos hm2, ← hR])
              clear r1 r2 r3 hR
              go_wp2
              exact ⟨⟨n2 + (R + 8), k + 1, by go_num, by go_num, by omega, by omega, HT4.out, HT3.out.2⟩, by simp [intOf]; omega⟩
            · go_wp2
              exact ⟨⟨n2, i + 1, rfl, by go_num, by omega, hn2, by rw [HT2.out.1, HT3.out.1, recTo_stop hm2], HT3.out.2⟩, by simp [intOf]; omega⟩
          · obtain rfl : k = M := by omega
            go_wp2
            have e9 : recTo (rs.drop k) n2 = n2 := by rw [List.drop_of_length_le (by have := HM.out.1; omega)]; rfl
            exact ⟨⟨n2, i + 1, rfl, by go_num, by omega, hn2, by rw [HT2.out.1, HT3.out.1, e9], HT3.out.2⟩, by simp [intOf]; omega⟩
      · have hlast : Hid (heavyN gs = n) := Lib.hid (by rw [HT.out.1, groupTo_stop hm])
        go_wp2
        go_ret
        refine ⟨?_, HT.out.2⟩
        rw [hlast.out, decide_eq_true (by omega : 4194304 < n)]
        rfl
    · obtain rfl : i = N := by omega
      have hlast : Hid (heavyN gs = n) := Lib.hid (by rw [HT.out.1, List.drop_of_length_le (by have := HN.out; omega)]; rfl)
      go_wp2
      go_ret
      refine ⟨?_, HT.out.2⟩
      rw [hlast.out]
      have e : decide ((4194304 : Int) < (n : Int)) = decide (4194304 < n) := by rw [decide_eq_decide]; omega
      rw [← e]
      rfl
end Go.Proofs.YtkmmlfphcfcbgaaGreatDoor.Dw

/- A segment over a disk of its own on which nothing fails. -/
namespace Go.Proofs.YtkmmlfphcfcbgaaGreatDoor.Dw
open Go.RowKit Go.ChangeMaps Go.Proofs.YtkmmlfphcfcbgaaGreatDoor.Mp Go.Proofs.YtkmmlfphcfcbgaaGreatDoor.Dm Go.Proofs.YtkmmlfphcfcbgaaGreatDoor.Da Go.Shelf
open Go.Proofs.YtkmmlfphcfcbgaaGreatDoor.Sg (SegS packE Over)
open Go.Proofs.YtkmmlfphcfcbgaaGreatDoorW.PrintWords (ReadsInt string_of_reads)
set_option linter.unusedVariables false
set_option linter.unusedSimpArgs false
set_option linter.unusedSectionVars false
theorem nmOf_good (x : Nat) : good (nmOf x) = true := by
  unfold good
  rw [nmOf_size]
  rfl
structure QS (B : Nat) (w : World) (b : Nat) (lab : Nat → Option Lb) (eb : Nat → Addr) (L : List Err) (n m : Nat) (D : Disk) (sb : Nat) (s : SegS) (x : Nat) (gs : List (List Sg.Bytes)) (f : FileS) : Prop where
  seg : SegL B w b lab eb L n m D sb s
  one : One (nmOf x) f D
  quiet : Quiet D
  over : Over s x gs f
  nmx : s.nm = nmOf x
  low : B ≤ w.heap.size
  bad : ∀ k, f.badSeen k = false
theorem start_calls {w : World} {eb : Nat → Addr} {L : List Err} (he : ErrsAt w.heap.size w eb L) (hv : Env w.heap.size w L) (x : Nat) (hx : 1 ≤ x ∧ x ≤ 4611686018427387904) :
    Calls Tryz.prog 13 #[dptr (w.heap.size + 2), .int .u64 x] (wBorn w) fun e w' => ∃ sb, e = .returned (.tuple #[segP sb, .nilIface]) ∧ w.heap.size ≤ sb ∧ ∃ lab D, QS w.heap.size w' (w.heap.size + 2) lab eb L 2 0 D sb ⟨nmOf x, x, 0, true, false⟩ x [] FileS.new ∧ D.count = 2 ∧ Frm (fun _ => False) w w' := by
  obtain ⟨o1, o2, o3, o4, o5⟩ := one_new (nmOf_good x)
  have F0 : Frm (fun _ => False) w (wBorn w) := Frm.of_below (born_below w) _
  have hb := Live.born he
  have K := create9_calls hb (hv.frm F0 (fun _ h => h.elim)) x hx (by rw [o1]) (by rw [o1]; exact o2) F0.size (.small (by decide) (by decide))
  refine K.mono ?_
  rintro e w' ⟨sb, rfl, h1, lab', h2, h3, h4⟩
  rw [o1] at h2
  refine ⟨sb, rfl, Nat.le_trans F0.size h1, lab', _, ⟨h2, o3, o4, ⟨rfl, rfl, rfl, rfl, rfl, fun g hg => absurd hg List.not_mem_nil, fun h => absurd rfl h⟩, rfl, Nat.le_trans F0.size h3.size, fun _ => rfl⟩, o5, F0.trans h3 (fun i hi hl => by have := hb.base i hl; omega)⟩
def NextQ (B : Nat) (w : World) (lab : Nat → Option Lb) (w' : World) (b : Nat) (eb : Nat → Addr) (L : List Err) (n m : Nat) (D : Disk) (sb : Nat) (s : SegS) (x : Nat) (gs : List (List Sg.Bytes)) (f : FileS) : Prop :=
  ∃ lab', QS B w' b lab' eb L n m D sb s x gs f ∧ Frm (fun k => k = sb ∨ Ft lab k) w w' ∧ ∀ k, k < w.heap.size → Ft lab' k → Ft lab k
section
variable {B : Nat} {w : World} {b : Nat} {lab : Nat → Option Lb} {eb : Nat → Addr} {L : List Err} {n m : Nat} {D : Disk} {sb : Nat} {s : SegS} {x : Nat} {gs : List (List Sg.Bytes)} {f : FileS}
theorem QS.frm (h : QS B w b lab eb L n m D sb s x gs f) {w' : World} (hf : Frm (fun _ => False) w w') : QS B w' b lab eb L n m D sb s x gs f :=
  ⟨h.seg.frm hf, h.one, h.quiet, h.over, h.nmx, Nat.le_trans h.low hf.size, h.bad⟩
theorem QS.own (h : QS B w b lab eb L n m D sb s x gs f) : ∀ k, (k = sb ∨ Ft lab k) → B ≤ k := fun k hk => hk.elim (fun e => e ▸ h.seg.low) (h.seg.live.base k)
/-- Records that Pack takes, where nothing fails. -/
theorem QS.append (h : QS B w b lab eb L n m D sb s x gs f) (hx : 1 ≤ x) (A : Option Addr) (c : Nat) (rs : List Sg.Bytes) (hr : RecsAt w A rs) (hc : rs.length ≤ c) (hl : rs.length ≤ 68719476736) (hb : ∀ r, r ∈ rs → ∀ x, x ∈ r → 0 ≤ x ∧ x < 256) (h0 : rs ≠ []) (hp : (packE s.next rs).1 = 0)
    (hf : DFit (n + 1) (m + (packE s.next rs).2.length)) (hbl : s.blocks + (packE s.next rs).2.length / 512 ≤ 4398046511104) :
    Calls Tryz.prog 14 #[segP sb, .slice A rs.length c] w fun e w' => e = .returned .nilIface ∧ ∃ D', D'.count = D.count + 1 ∧ NextQ B w lab w' b eb L (n + 1) (m + (packE s.next rs).2.length) D' sb (s.more rs) x (gs ++ Sg.cutRecs rs.length rs) (FileS.add (packE s.next rs).2 f) := by
  obtain ⟨a1, a2, a3, a4⟩ := h.one.appendQ h.quiet (packE s.next rs).2
  have K := append_goes h.seg h.over.well h.over.whole A c rs hr hc hl hb h0 hp hf hbl
  rw [h.nmx, a1, errV_zero, if_pos rfl] at K
  refine K.mono ?_
  rintro e w' ⟨rfl, lab', h1, h2, h3⟩
  exact ⟨rfl, _, a4, lab', ⟨h1, a2, a3, h.over.more h0 hp hx, h.nmx, Nat.le_trans h.low h2.size, Sg.add_good h.bad _⟩, h2, h3⟩
theorem QS.sync (h : QS B w b lab eb L n m D sb s x gs f) (hf : DFit (n + 1) m) :
    Calls Tryz.prog 43 #[segP sb] w fun e w' => e = .returned .nilIface ∧ ∃ D', D'.count = D.count + 1 ∧ NextQ B w lab w' b eb L (n + 1) m D' sb s x gs f.sync := by
  obtain ⟨a1, a2, a3, a4⟩ := h.one.syncQ h.quiet
  have K := ssync_calls h.seg h.over.well hf
  rw [h.nmx, a1, errV_zero] at K
  refine K.mono ?_
  rintro e w' ⟨rfl, lab', h1, h2, h3⟩
  have e1 : s.met 0 = s := by
    unfold SegS.met
    have := h.over.well
    cases s
    simp_all
  rw [e1] at h1
  exact ⟨rfl, _, a4, lab', ⟨h1, a2, a3, ⟨h.over.seen, h.over.next, h.over.blocks, h.over.whole, h.over.well, h.over.good, h.over.nums⟩, h.nmx, Nat.le_trans h.low h2.size, h.bad⟩, h2, h3⟩
/-- Another one over the same file. -/
theorem QS.open_ (h : QS B w b lab eb L n m D sb s x gs f) (hx : 1 ≤ x ∧ x ≤ 4611686018427387904) (hby : ∀ x, x ∈ f.seen → 0 ≤ x ∧ x < 256) :
    Calls Tryz.prog 15 #[dptr b, .int .u64 x] w fun e w' => ∃ sb2 p c, e = .returned (.tuple #[segP sb2, .slice p gs.flatten.length c, .nilIface]) ∧ w.heap.size ≤ sb2 ∧ QS B w' b lab eb L n m D sb2 s x gs f ∧ RecsOwn w' w.heap.size (.slice p gs.flatten.length c) gs.flatten ∧ Frm (fun _ => False) w w' := by
  have hrd := h.one.read h.quiet.off
  rw [Sg.numbers_none h.bad] at hrd
  have hln : f.seen.length ≤ 4398046511104 := by
    have h1 := h.seg.live.sz.len f (by rw [h.one.files]; exact List.mem_singleton_self _)
    exact Nat.le_trans h1 h.seg.live.hm
  have hsc : Sg.scanAll f.seen [] x = (gs.flatten, gs.length) := by rw [h.over.seen]; exact Sg.scanAll_whole h.over.nums h.over.good
  have K := open9_calls h.seg.live h.seg.env x hx f.seen [] hrd h.low hln (by simp) hby
  rw [hsc] at K
  have hs : openS x f.seen [] = s := by
    unfold openS
    rw [hsc]
    have h1 := h.over.next
    have h2 := h.over.blocks
    have h3 := h.over.whole
    have h4 := h.over.well
    have h5 := h.nmx
    have h6 : f.seen.length = gs.length * 512 := by rw [h.over.seen, Sg.lay_length Sg.crc gs x h.over.good, Nat.mul_comm]
    rw [decide_eq_true h6]
    cases s
    simp_all
  rw [hs] at K
  refine K.mono ?_
  rintro e w' ⟨sb2, p, c, rfl, h1, h2, h3, h4⟩
  exact ⟨sb2, p, c, rfl, h1, ⟨h2, h.one, h.quiet, h.over, h.nmx, Nat.le_trans h.low h4.size, h.bad⟩, h3, h4⟩
end
end Go.Proofs.YtkmmlfphcfcbgaaGreatDoor.Dw

/- Walks: a segment at work. -/
namespace Go.Proofs.YtkmmlfphcfcbgaaGreatDoor.Dw
open Go.RowKit Go.ChangeMaps Go.Proofs.YtkmmlfphcfcbgaaGreatDoor.Mp Go.Proofs.YtkmmlfphcfcbgaaGreatDoor.Dm Go.Proofs.YtkmmlfphcfcbgaaGreatDoor.Da Go.Shelf
open Go.Proofs.YtkmmlfphcfcbgaaGreatDoor.Sg (SegS packE Over)
open Go.Proofs.YtkmmlfphcfcbgaaGreatDoorW.PrintWords (ReadsInt string_of_reads)
set_option linter.unusedVariables false
set_option linter.unusedSimpArgs false
set_option linter.unusedSectionVars false
def rsAw : List Sg.Bytes := [[97, 98], [99]]
theorem aw_pack : (packE 7 rsAw).1 = 0 ∧ (packE 7 rsAw).2.length = 512 := by
  have e : packE 7 rsAw = (0, Sg.pack Sg.crc 2 7 rsAw) := by
    unfold packE
    rw [if_neg (by decide), if_neg (by decide), if_neg (by decide)]
    rfl
  rw [e]
  refine ⟨rfl, ?_⟩
  rw [Sg.pack_length]
  decide
theorem aw_more : (⟨nmOf 7, 7, 0, true, false⟩ : SegS).more rsAw = ⟨nmOf 7, 9, 1, true, false⟩ := by
  have := aw_pack
  unfold SegS.more
  have e : (Sg.pack Sg.crc rsAw.length 7 rsAw).length = 512 := by
    rw [Sg.pack_length]; decide
  simp only [e]
  rfl
theorem aw_cut : ([] ++ Sg.cutRecs rsAw.length rsAw : List (List Sg.Bytes)).flatten = rsAw := by decide
/-- The segment at work, opened. -/
structure AwO (w : World) (sb g : Nat) (p1 p2 : Option Addr) (c k1 k2 : Nat) : Prop where
  cc : 2 ≤ c
  r1 : w.cell? ⟨g, 0, none⟩ = some (.slice p1 2 k1)
  r2 : w.cell? ⟨g, 1, none⟩ = some (.slice p2 1 k2)
  v1 : (convert 36 9 (.slice p1 2 k1)).run Tryz.prog w = .ok (.string ⟨#[97, 98]⟩) w
  v2 : (convert 36 9 (.slice p2 1 k2)).run Tryz.prog w = .ok (.string ⟨#[99]⟩) w
  nx : Calls Tryz.prog 40 #[.pointer (some ⟨sb, 0, none⟩)] w fun e w' => e = .returned (.int .u64 9) ∧ w' = w
  bl : Calls Tryz.prog 41 #[.pointer (some ⟨sb, 0, none⟩)] w fun e w' => e = .returned (.int .i64 1) ∧ w' = w
theorem aw_open {B : Nat} {w : World} {b : Nat} {lab : Nat → Option Lb} {eb : Nat → Addr} {L : List Err} {n m : Nat} {D : Disk} {sb : Nat}
    (hq : QS B w b lab eb L n m D sb ⟨nmOf 7, 9, 1, true, false⟩ 7 ([] ++ Sg.cutRecs rsAw.length rsAw) (FileS.add (packE 7 rsAw).2 FileS.new).sync) :
    Calls Tryz.prog 15 #[dptr b, .int .u64 7] w fun e w' => ∃ sb2 g p1 p2 c k1 k2, e = .returned (.tuple #[.pointer (some ⟨sb2, 0, none⟩), .slice (some ⟨g, 0, none⟩) 2 c, .nilIface]) ∧ AwO w' sb2 g p1 p2 c k1 k2 ∧ Frm (fun _ => False) w w' ∧ Env B w' L := by
  have hby : ∀ x, x ∈ (FileS.add (packE 7 rsAw).2 FileS.new).sync.seen → 0 ≤ x ∧ x < 256 := by
    intro x hx
    have e : (FileS.add (packE 7 rsAw).2 FileS.new).sync.seen = (packE 7 rsAw).2 := by
      show (FileS.add (packE 7 rsAw).2 FileS.new).seen = _
      rw [Sg.add_seen]; rfl
    rw [e] at hx
    have hbb : ∀ r, r ∈ rsAw → ∀ x, x ∈ r → 0 ≤ x ∧ x < 256 := by decide
    exact Sg.packE_byte hbb x hx
  have K := hq.open_ (by decide) hby
  rw [aw_cut] at K
  refine K.mono ?_
  rintro e w' ⟨sb2, p, c, rfl, h1, h2, h3, h4⟩
  have hc : 2 ≤ c := by
    obtain ⟨p', c', e, h5⟩ := h3.form
    simp only [Value.slice.injEq, true_and] at e
    rw [← e.2] at h5
    exact h5
  have hr := h3.recsAt
  have key : ∃ g, p = some ⟨g, 0, none⟩ := by
    obtain ⟨us, gs, k1, _⟩ := h3
    obtain ⟨g, c', e, _⟩ := row_shape k1 (by decide)
    simp only [Value.slice.injEq, true_and] at e
    exact ⟨g, e.1⟩
  obtain ⟨g, rfl⟩ := key
  obtain ⟨a1, p1, k1, ha1, q1, q2, q3⟩ := hr 0 (by decide)
  obtain ⟨a2, p2, k2, ha2, r1, r2, r3⟩ := hr 1 (by decide)
  cases ha1
  cases ha2
  rw [addO] at q1 r1
  refine ⟨sb2, g, p1, p2, c, k1, k2, rfl, ⟨hc, q1, r1, ?_, ?_, ?_, ?_⟩, h4, h2.seg.env⟩
  · exact string_of_reads (P := Tryz.prog) (w := w') (c := k1) Tryz.underlying36 Tryz.underlying5 Tryz.underlying9 q3
  · exact string_of_reads (P := Tryz.prog) (w := w') (c := k2) Tryz.underlying36 Tryz.underlying5 Tryz.underlying9 r3
  · exact next_calls h2.seg
  · exact blocks_calls h2.seg
theorem nm255 : nmOf 255 = ⟨#[108, 111, 103, 46, 48, 48, 48, 48, 48, 48, 48, 48, 48, 48, 48, 48, 48, 48, 102, 102]⟩ := by decide
set_option maxHeartbeats 2000000 in
set_option maxRecDepth 100000 in
theorem awake_calls {w : World} {eb : Nat → Addr} {L : List Err} (he : ErrsAt w.heap.size w eb L) (hv : Env w.heap.size w L) :
    Calls Tryz.prog 10 #[] w fun e w' => e = .returned (.bool true) ∧ Frm (fun _ => False) w w' := by
  have K0 := Lib.hid (new_calls w)
  have K1 := Lib.hid (start_calls he hv 7 (by decide))
  have c7 : ((7 : Nat) : Int) = 7 := rfl
  have c0 : ((0 : Nat) : Int) = 0 := rfl
  have c255 : ((255 : Nat) : Int) = 255 := rfl
  simp only [c7] at K1
  clear he hv
  go_enter Tryz.func10, Tryz.ntmps10
  go_upto_region 5 with (first
    | (go_at_call 12; (with_reducible refine K0.out.mono ?_); rintro e w1 ⟨rfl, rfl⟩)
    | (go_at_call 13; (with_reducible refine K1.out.mono ?_); rintro e w2 ⟨sb, rfl, hsb, lab, D, hq, hcn, hf2⟩; have H2 := Lib.hid (And.intro hq (And.intro hcn (And.intro hf2 hsb))); have KN := Lib.hid (next_calls hq.seg); have KB := Lib.hid (blocks_calls hq.seg); have KW := Lib.hid (whole_calls hq.seg); clear hq hcn hf2 hsb; simp only [c7, c0] at KN KB; unfold segP at KN KB KW ⊢)
    | (go_at_call 40; (with_reducible refine KN.out.mono ?_); rintro e w3 ⟨rfl, rfl⟩)
    | (go_at_call 41; (with_reducible refine KB.out.mono ?_); rintro e w4 ⟨rfl, rfl⟩)
    | (go_at_call 42; (with_reducible refine KW.out.mono ?_); rintro e w5 ⟨rfl, rfl⟩))
  obtain ⟨W2, E1, g1, z1, q1⟩ := convMark (W := w5.alloc (.cells #[.int .u8 97, .int .u8 98] 5)) (n := 2) (c := 2) blk_alloc
  obtain ⟨W3, E2, g2, z2, q2⟩ := convMark (W := W2.alloc (.cells #[.int .u8 99] 5)) (n := 1) (c := 1) blk_alloc
  have hz2 : W2.heap.size = w5.heap.size + 1 := by rw [z1]; simp
  have hz3 : W3.heap.size = w5.heap.size + 2 := by rw [z2]; simp; omega
  have fA : Frm (fun _ => False) w5 W2 := ((Frm.refl _ _).alloc _).trans g1 (fun i hi e => by omega)
  have fB : Frm (fun _ => False) W2 W3 := ((Frm.refl _ _).alloc _).trans g2 (fun i hi e => by omega)
  have HR : Hid (∀ W, W = W3.alloc (.cells #[.slice (some ⟨w5.heap.size, 0, none⟩) 2 2, .slice (some ⟨W2.heap.size, 0, none⟩) 1 1] 36) → Frm (fun _ => False) w5 W ∧ RecsAt W (some ⟨W3.heap.size, 0, none⟩) rsAw) := Lib.hid (fun W hW => by
    subst hW
    have fC : Frm (fun _ => False) W3 (W3.alloc (.cells #[.slice (some ⟨w5.heap.size, 0, none⟩) 2 2, .slice (some ⟨W2.heap.size, 0, none⟩) 1 1] 36)) := (Frm.refl _ _).alloc _
    refine ⟨fA.trans (fB.trans fC (fun _ _ h => h)) (fun _ _ h => h), fun j hj => ?_⟩
    match j, hj with
    | 0, _ =>
      refine ⟨_, _, 2, rfl, by rw [addO]; exact cell_of blk_alloc rfl, by show 2 ≤ 2; decide, reads_mk (by show 2 ≤ _; decide) (fun i hi => ?_) rfl⟩
      rw [(fB.trans fC (fun _ _ h => h)).cell (by omega) id]
      rw [q1]
      match i, hi with
      | 0, _ => rfl
      | 1, _ => rfl
    | 1, _ =>
      refine ⟨_, _, 1, rfl, by rw [addO]; exact cell_of blk_alloc rfl, by show 1 ≤ 1; decide, reads_mk (by show 1 ≤ _; decide) (fun i hi => ?_) rfl⟩
      rw [fC.cell (by omega) id]
      rw [q2]
      match i, hi with
      | 0, _ => rfl)
  have KA : Hid (∀ W, W = W3.alloc (.cells #[.slice (some ⟨w5.heap.size, 0, none⟩) 2 2, .slice (some ⟨W2.heap.size, 0, none⟩) 1 1] 36) → Calls Tryz.prog 14 #[.pointer (some ⟨sb, 0, none⟩), .slice (some ⟨W3.heap.size, 0, none⟩) 2 2] W fun e w' => e = .returned .nilIface ∧ ∃ lab' D', QS w.heap.size w' (w.heap.size + 2) lab' eb L 3 512 D' sb ⟨nmOf 7, 9, 1, true, false⟩ 7 ([] ++ Sg.cutRecs rsAw.length rsAw) (FileS.add (packE 7 rsAw).2 FileS.new) ∧ Frm (fun _ => False) w w') := Lib.hid (fun W hW => by
    obtain ⟨h1, h2⟩ := HR.out W hW
    have hq := H2.out.1.frm h1
    have K := hq.append (by decide) (some ⟨W3.heap.size, 0, none⟩) 2 rsAw h2 (by decide) (by decide) (by decide) (by decide) aw_pack.1 (.small (by decide) (by rw [aw_pack.2]; decide)) (by rw [aw_pack.2]; decide)
    rw [aw_pack.2, aw_more] at K
    refine K.mono ?_
    rintro e w' ⟨rfl, D', h3, lab', h4, h5, h6⟩
    exact ⟨rfl, lab', D', h4, (H2.out.2.2.1.trans h1 (fun _ _ h => h)).trans h5 (fun i hi hk => by have := hq.own i hk; omega)⟩)
  have HW2 := Lib.hid (And.intro hz2 hz3)
  clear z1 q1 z2 q2 hz2 hz3 fA fB g1 g2
  go_wp2_with (first
    | (go_at_call 14; (with_reducible refine (KA.out _ rfl).mono ?_); rintro e w6 ⟨rfl, lab6, D6, hq6, hf6⟩; have KS6 := Lib.hid (hq6.sync (.small (by decide) (by decide))); have HQ6 := Lib.hid (And.intro hf6 hq6); clear hq6 hf6; unfold segP at KS6)
    | (go_at_call 43; (with_reducible refine KS6.out.mono ?_); rintro e w7 ⟨rfl, D7, hc7, lab7, hq7, hg7, hm7⟩; have HQ7 := Lib.hid (And.intro hq7 (HQ6.out.1.trans hg7 (fun i hi hk => by have := HQ6.out.2.own i hk; omega))); have KO7 := Lib.hid (aw_open hq7); clear hc7 hq7 hg7 hm7)
    | (go_at_call 15; (with_reducible refine KO7.out.mono ?_); rintro e w8 ⟨sb2, g, p1, p2, c, k1, k2, rfl, ho, hf8, hv8⟩; have r1 := ho.r1; have r2 := ho.r2; have v1 := ho.v1; have v2 := ho.v2; have hcc := ho.cc; have KN8 := Lib.hid ho.nx; have KB8 := Lib.hid ho.bl; have HF8 := Lib.hid (HQ7.out.2.trans hf8 (fun _ _ h => h)); have KM := Lib.hid (name_calls w8 255 (by decide) hv8.tab); rw [nm255] at KM; rw [c255] at KM; clear ho hf8 hv8)
    | (go_at_call 40; (with_reducible refine KN8.out.mono ?_); rintro e w9 ⟨rfl, rfl⟩)
    | (go_at_call 41; (with_reducible refine KB8.out.mono ?_); rintro e w10 ⟨rfl, rfl⟩)
    | (go_at_call 44; (with_reducible refine KM.out.mono ?_); rintro e w11 ⟨rfl, hf11⟩; have H11 := Lib.hid hf11; clear hf11))
  go_ret
  exact ⟨rfl, HF8.out.trans H11.out (fun _ _ h => h)⟩
end Go.Proofs.YtkmmlfphcfcbgaaGreatDoor.Dw
