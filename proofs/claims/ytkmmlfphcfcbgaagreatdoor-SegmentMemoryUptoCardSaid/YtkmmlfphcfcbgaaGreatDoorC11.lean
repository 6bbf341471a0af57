/- A part of the proof of segmentMemoryUpto_holds: Sn, Ei, Dr, Df, Dg. No condition. -/
import Derived.Test.YtkmmlfphcfcbgaaGreatDoorProg
import Derived.WalkKit
import Derived.LaidEql
import Derived.Stop.Asserts
import Derived.RowKitTokens
import Derived.KernelRfl
import Derived.Laws.EntriesVeiled
import Derived.Test.YtkmmlfphcfcbgaaGreatDoorC10

/- Walks: Scan. -/
namespace Go.Proofs.YtkmmlfphcfcbgaaGreatDoor.Dw
open Go.RowKit Go.ChangeMaps Go.Proofs.YtkmmlfphcfcbgaaGreatDoor.Mp Go.Proofs.YtkmmlfphcfcbgaaGreatDoor.Dm Go.Proofs.YtkmmlfphcfcbgaaGreatDoor.Da
open Go.Proofs.YtkmmlfphcfcbgaaGreatDoorW.PrintWords (Kd ReadsInt own_weaken string_of_reads)
set_option linter.unusedVariables false
set_option linter.unusedSimpArgs false
set_option linter.unusedSectionVars false
theorem contains_reads {w : World} {p : Option Addr} {n c : Nat} {bs : List Int} (h : ReadsInt w .i64 p bs.length bs) (hn : bs.length = n) (x : Int) (hbig : n ≤ 9223372036854775807) :
    Calls Tryz.prog 102 #[.slice p n c, .int .i64 x] w fun e w' => e = .returned (.bool (decide (x ∈ bs))) ∧ w' = w := by
  subst hn
  by_cases h0 : bs = []
  · subst h0
    exact (contains_empty p c x w).mono (by rintro e w' ⟨he, hw⟩; exact ⟨by rw [he]; rfl, hw⟩)
  · obtain ⟨a, rfl, hc⟩ := h.2.2 (List.length_pos_iff.2 h0)
    have hs := spot_none (w := w) (a := a) (by have := hc 0 (List.length_pos_iff.2 h0); rwa [show a.add 0 = a by unfold Addr.add; simp] at this)
    obtain ⟨g, o, pt⟩ := a
    cases hs
    refine (contains_calls g o bs.length c bs x w (Nat.le_refl _) hbig fun j hj => by have := hc j hj; rwa [addO] at this).mono ?_
    rintro e w' ⟨he, hw⟩
    refine ⟨?_, hw⟩
    rw [he, List.take_length]
    congr 2
    rw [Bool.eq_iff_iff, decide_eq_true_eq, List.contains_iff_mem]
/-- Records behind records. -/
theorem RecsOwn.append {w w1 w' : World} {base base1 : Nat} {v v' : Value} {rs rs1 : List Sg.Bytes} {us us1 : List Value} {gs gs1 : List Nat}
    (h1 : w.ownsRow base 36 1 v rs.length us) (h2 : gs.length = rs.length) (h3 : gs.Nodup) (h4 : ∀ j (h : j < rs.length), ∃ u g, us[j]? = some u ∧ gs[j]? = some g ∧ Rec1 w base g u rs[j])
    (k1 : us1.length = rs1.length) (k2 : gs1.length = rs1.length) (k3 : gs1.Nodup) (k4 : ∀ j (h : j < rs1.length), ∃ u g, us1[j]? = some u ∧ gs1[j]? = some g ∧ Rec1 w1 base1 g u rs1[j])
    (hb : w.heap.size ≤ base1) (hbb : base ≤ base1) (hrow : w'.ownsRow base 36 1 v' (rs.length + rs1.length) (us ++ us1)) (hk : ∀ k, k < w.heap.size → some k ≠ v.ownBlock → w'.heap[k]? = w.heap[k]?) (hk1 : ∀ k, k < w1.heap.size → some k ≠ v.ownBlock → w'.heap[k]? = w1.heap[k]?) (hv : ∀ g, v.ownBlock = some g → g < w.heap.size) : RecsOwn w' base v' (rs ++ rs1) := by
  have hul : us.length = rs.length := by have := h1.1; omega
  have low : ∀ j (h : j < rs.length), ∀ g, gs[j]? = some g → g < w.heap.size := fun j hj g hg => by
    obtain ⟨u', g', h5, h6, h7⟩ := h4 j hj
    rw [h6] at hg
    cases hg
    exact h7.lt
  have high : ∀ j (h : j < rs1.length), ∀ g, gs1[j]? = some g → base1 ≤ g := fun j hj g hg => by
    obtain ⟨u', g', h5, h6, h7⟩ := k4 j hj
    rw [h6] at hg
    cases hg
    obtain ⟨_, _, _, h, _⟩ := h7
    exact h
  refine ⟨us ++ us1, gs ++ gs1, by rw [List.length_append]; exact hrow, by simp [h2, k2], ?_, fun j hj => ?_⟩
  · rw [List.nodup_append]
    refine ⟨h3, k3, fun a ha b hb' e => ?_⟩
    obtain ⟨i, hi, rfl⟩ := List.getElem_of_mem ha
    obtain ⟨i2, hi2, rfl⟩ := List.getElem_of_mem hb'
    have q1 := low i (by omega) _ (List.getElem?_eq_getElem hi)
    have q2 := high i2 (by omega) _ (List.getElem?_eq_getElem hi2)
    omega
  · rw [List.length_append] at hj
    rcases Nat.lt_or_ge j rs.length with hlt | hge
    · obtain ⟨u', g', h5, h6, h7⟩ := h4 j hlt
      refine ⟨u', g', by rw [List.getElem?_append_left (by omega)]; exact h5, by rw [List.getElem?_append_left (by omega)]; exact h6, ?_⟩
      rw [List.getElem_append_left hlt]
      refine h7.keep (hk g' h7.lt fun e => ?_)
      obtain ⟨cap, cs, _, _, _, _, _, hh, _⟩ := h7
      obtain ⟨cs2, hh2⟩ := own_block8 h1 e.symm
      rw [hh2] at hh
      simp at hh
    · obtain ⟨u', g', h5, h6, h7⟩ := k4 (j - rs.length) (by omega)
      refine ⟨u', g', by rw [List.getElem?_append_right (by omega), hul]; exact h5, by rw [List.getElem?_append_right (by omega), h2]; exact h6, ?_⟩
      rw [List.getElem_append_right (by omega)]
      refine (h7.keep (hk1 g' h7.lt fun e => ?_)).weaken hbb
      have := hv g' e.symm
      obtain ⟨_, _, _, h, _⟩ := h7
      omega
theorem slice_cells {w : World} {base base1 n : Nat} {v : Value} {us : List Value} {gs : List Nat} {rs : List Sg.Bytes} (h : w.ownsRow base 36 1 v n us) (hn : n = rs.length) (hk : ∀ j (h : j < rs.length), ∃ u g, us[j]? = some u ∧ gs[j]? = some g ∧ Rec1 w base1 g u rs[j]) : ∀ u ∈ us, u.oneCell' = true := by
  intro u hu
  obtain ⟨j, hj, rfl⟩ := List.getElem_of_mem hu
  have hl := h.1
  obtain ⟨u', g, h1, _, cap, cs, h3, _⟩ := hk j (by omega)
  rw [List.getElem?_eq_getElem hj] at h1
  rw [Option.some.inj h1, h3]
  rfl
/-- One step of a scan, as the walk goes. -/
theorem scan_next {data : List Int} {bad : List Int} {i first fst : Nat} {done : List Sg.Bytes} (hi : i ≤ data.length / 512)
    (h : Sg.scanAll data bad first = (done ++ (Sg.scan Sg.crc data bad (data.length / 512 + 1 - i) i fst).1, i + (Sg.scan Sg.crc data bad (data.length / 512 + 1 - i) i fst).2)) :
    (¬ ((i + 1) * 512 ≤ data.length ∧ ¬ (i : Int) ∈ bad) → Sg.scanAll data bad first = (done, i)) ∧
    ((i + 1) * 512 ≤ data.length ∧ ¬ (i : Int) ∈ bad → (Sg.decode Sg.crc ((data.drop (i * 512)).take 512) = none → Sg.scanAll data bad first = (done, i)) ∧
      ∀ a rs, Sg.decode Sg.crc ((data.drop (i * 512)).take 512) = some (a, rs) → (a ≠ fst → Sg.scanAll data bad first = (done, i)) ∧
        (a = fst → i + 1 ≤ data.length / 512 ∧ Sg.scanAll data bad first = (done ++ rs ++ (Sg.scan Sg.crc data bad (data.length / 512 + 1 - (i + 1)) (i + 1) (fst + rs.length)).1, i + 1 + (Sg.scan Sg.crc data bad (data.length / 512 + 1 - (i + 1)) (i + 1) (fst + rs.length)).2))) := by
  have e : data.length / 512 + 1 - i = (data.length / 512 + 1 - (i + 1)) + 1 := by omega
  rw [e, Sg.scan_succ] at h
  unfold Sg.scanStep at h
  refine ⟨fun hc => ?_, fun hc => ⟨fun hd => ?_, fun a rs hd => ⟨fun ha => ?_, fun ha => ?_⟩⟩⟩
  · rw [if_neg hc] at h; simpa using h
  · rw [if_pos hc, hd] at h; simpa using h
  · rw [if_pos hc, hd] at h
    simp only [if_neg ha] at h
    simpa using h
  · rw [if_pos hc, hd] at h
    simp only [if_pos ha] at h
    refine ⟨by omega, ?_⟩
    rw [h, List.append_assoc]
    refine Prod.ext rfl ?_
    simp only []
    omega
set_option maxHeartbeats 2000000 in
set_option maxRecDepth 100000 in
theorem scan_calls {B : Nat} {w : World} {eb : Nat → Addr} {Le : List Err} (h : CrcAt B w) (he : ErrsAt B w eb Le) (h2 : 2 ∈ Le) (h3 : 3 ∈ Le) (h5 : 5 ∈ Le) (hBw : B ≤ w.heap.size) (p pb : Option Addr) (n c nb cb : Nat) (data bad : List Int) (first : Nat)
    (hx : ReadsInt w .u8 p data.length data) (hn : data.length = n) (hnc : n ≤ c) (hl : n ≤ 4398046511104) (hb : ∀ x, x ∈ data → 0 ≤ x ∧ x < 256) (hbr : ReadsInt w .i64 pb bad.length bad) (hnb : bad.length = nb) (hf : first < 18446744073709551616) :
    Calls Tryz.prog 50 #[.slice p n c, .slice pb nb cb, .int .u64 first] w fun e w' => ∃ v, e = .returned (.tuple #[v, .int .i64 (Sg.scanAll data bad first).2]) ∧ RecsOwn w' w.heap.size v (Sg.scanAll data bad first).1 ∧ Frm (fun _ => False) w w' := by
  obtain ⟨iB, hiB, hzB, hzB1, hzB2⟩ := info_parts recsInfo
  have hmx : maxLen = 9223372036854775807 := by decide
  have HX := Lib.hid (And.intro hx (And.intro hn hb))
  have HB := Lib.hid (And.intro hbr hnb)
  have HE := Lib.hid (And.intro h (And.intro he (And.intro h2 (And.intro h3 h5))))
  have hsc : Hid (Sg.scanAll data bad first = (([] : List Sg.Bytes) ++ (Sg.scan Sg.crc data bad (data.length / 512 + 1 - 0) 0 first).1, 0 + (Sg.scan Sg.crc data bad (data.length / 512 + 1 - 0) 0 first).2)) := Lib.hid (by simp [Sg.scanAll])
  obtain ⟨M, hM⟩ : ∃ M, M = n / 512 := ⟨_, rfl⟩
  have hMl : M * 512 ≤ n := by omega
  have HM := Lib.hid hM
  have hnbl : nb ≤ 9223372036854775807 := by rw [← hnb]; exact hbr.2.1
  clear hx hn hb hbr hnb h he h2 h3 h5 hM
  go_enter Tryz.func50, Tryz.ntmps50
  go_wp2
  go_loopw [2, 8, 9] (fun f v iv wr => ∃ (i fst : Nat) (done : List Sg.Bytes), iv = .int .i64 (i : Nat) ∧ f = .int .u64 (fst : Nat) ∧ i ≤ M ∧ fst < 18446744073709551616 ∧ done.length ≤ 247 * i ∧ Sg.scanAll data bad first = (done ++ (Sg.scan Sg.crc data bad (data.length / 512 + 1 - i) i fst).1, i + (Sg.scan Sg.crc data bad (data.length / 512 + 1 - i) i fst).2) ∧ RecsOwn wr w.heap.size v done ∧ Frm (fun _ => False) w wr) (fun _ _ iv _ => M + 1 - (intOf iv).toNat)
  case atStart => exact ⟨0, first, [], rfl, rfl, Nat.zero_le _, hf, Nat.zero_le _, hsc.out, RecsOwn.nil _ _, Frm.refl _ _⟩
  case round =>
    obtain ⟨i, fst, done, rfl, rfl, hi, hfst, hdl, hscan, hrow, hfr⟩ := hrel
    obtain ⟨s1, s2⟩ := scan_next (by rw [HX.out.2.1, ← HM.out]; exact hi) hscan
    rw [HX.out.2.1] at s1 s2
    have HS := Lib.hid (And.intro s1 s2)
    obtain ⟨a, ha⟩ : ∃ a, a = i * 512 := ⟨_, rfl⟩
    obtain ⟨b, hb⟩ : ∃ b, b = a + 512 := ⟨_, rfl⟩
    have haI : (i : Int) * 512 = (a : Int) := by omega
    have hbI : ((i : Int) + 1) * 512 = (b : Int) := by omega
    have hbN : (i + 1) * 512 = b := by omega
    obtain ⟨p8, c8, rfl, hc8⟩ := hrow.form
    obtain ⟨D, hD⟩ : ∃ D, D = done.length := ⟨_, rfl⟩
    have HD := Lib.hid hD
    rw [← hD]
    have KC := Lib.hid (contains_reads (n := nb) (c := cb) (reads_frm HB.out.1 hfr) HB.out.2 (i : Int) hnbl)
    have HR := Lib.hid (And.intro hrow hfr)
    have HAB := Lib.hid (And.intro ha (And.intro hb hbN))
    clear s1 s2 hscan hrow hfr ha hb hD hbN
    by_cases hle : b ≤ n
    · by_cases hbad : (i : Int) ∈ bad
      · rw [decide_eq_true hbad] at KC
        have hleI : (b : Int) ≤ (n : Int) := by omega
        have hend : Hid (Sg.scanAll data bad first = (done, i)) := Lib.hid (HS.out.1 (fun h => h.2 hbad))
        clear HS
        go_wp2_with (first
          | (go_at_call 102; (with_reducible refine KC.out.mono ?_); rintro e wr ⟨rfl, rfl⟩))
        go_ret2
        rw [hend.out, HD.out]
        exact ⟨_, rfl, HR.out⟩
      · rw [decide_eq_false hbad] at KC
        have hleI : (b : Int) ≤ (n : Int) := by omega
        obtain ⟨a0, rfl, hcl⟩ := HX.out.1.2.2 (by have := HX.out.2.1; have := HAB.out; omega)
        have hsp := spot_none (w := w) (a := a0) (by have := hcl 0 (by have := HX.out.2.1; have := HAB.out; omega); rwa [show a0.add 0 = a0 by unfold Addr.add; simp] at this)
        obtain ⟨g, o, pt⟩ := a0
        cases hsp
        clear hcl
        have hba : b - a = 512 := by have := HAB.out; omega
        have hca : ¬ c = a := by have := HAB.out; omega
        have haleI : (a : Int) ≤ (b : Int) := by have := HAB.out; omega
        have hbcI : (b : Int) ≤ (c : Int) := by omega
        have hncI : (n : Int) ≤ (c : Int) := by omega
        obtain ⟨sec, hsec⟩ : ∃ sec, sec = (data.drop (i * 512)).take 512 := ⟨_, rfl⟩
        have hsl : sec.length = 512 := by rw [hsec, List.length_take, List.length_drop]; have := HX.out.2.1; have := HAB.out; omega
        have hsr : ReadsInt w .u8 (some ⟨g, o + a, none⟩) sec.length sec := by
          rw [hsec, HAB.out.1]
          exact subReads HX.out.1 (i * 512) 512 (by have := HX.out.2.1; have := HAB.out; omega) rfl
        have hsb : ∀ x, x ∈ sec → 0 ≤ x ∧ x < 256 := fun x hx => HX.out.2.2 x (by rw [hsec] at hx; exact List.mem_of_mem_drop (List.mem_of_mem_take hx))
        have KD := Lib.hid (decode_calls (HE.out.1.frm HR.out.2 (fun _ h => h.elim)) (HE.out.2.1.frm HR.out.2 (fun _ h => h.elim)) HE.out.2.2.1 HE.out.2.2.2.1 HE.out.2.2.2.2 (Nat.le_trans hBw HR.out.2.size) g (o + a) (c - a) sec (reads_frm hsr HR.out.2) hsl (by have := HAB.out; omega) hsb)
        have hgo := HS.out.2 ⟨by have := HAB.out; omega, hbad⟩
        rw [← hsec] at hgo
        clear HS hbad hsec hsl hsr hsb
        cases hd : Sg.decode Sg.crc sec with
        | none =>
          rw [hd] at KD
          have hend := Lib.hid (hgo.1 hd)
          clear hgo hd
          go_wp2_with (first
            | (go_at_call 102; (with_reducible refine KC.out.mono ?_); rintro e wr ⟨rfl, rfl⟩)
            | (go_at_call 103; (with_reducible refine KD.out.mono ?_); rintro e w7 ⟨hf, cc, hcc, rfl⟩; rw [errV_pos eb cc hcc]; have F7 := Lib.hid hf; clear hf))
          go_ret2
          rw [hend.out, HD.out]
          exact ⟨_, rfl, HR.out.1.frm F7.out, HR.out.2.trans F7.out (fun _ _ h => h)⟩
        | some q =>
          obtain ⟨at_, rs⟩ := q
          rw [hd] at KD
          have hgo2 := hgo.2 at_ rs hd
          have hcnt := Lib.hid (Sg.decode_count hd)
          clear hgo hd
          by_cases hat : at_ = fst
          · have hnx := Lib.hid (hgo2.2 hat)
            subst hat
            clear hgo2
            obtain ⟨us, gs, q1, q2, q3, q4⟩ := HR.out.1
            have HQ := Lib.hid (And.intro q1 (And.intro q2 (And.intro q3 q4)))
            obtain ⟨m, hm⟩ : ∃ m, m = rs.length := ⟨_, rfl⟩
            have hm1 : 1 ≤ m := by rw [hm]; exact hcnt.out.2.1.2.1
            have hm2 : 2 * m ≤ 494 := by rw [hm]; exact hcnt.out.2.2.1
            have hm3 : at_ + m ≤ 4611686018427387905 := by rw [hm]; exact hcnt.out.2.1.2.2
            have HM2 := Lib.hid hm
            have hD247 : D ≤ 247 * i := by rw [HD.out]; exact hdl
            have hi33 : i ≤ 8589934592 := by have := HM.out; omega
            have hb1 : D + m ≤ maxLen := by omega
            have hb2 : (D + m) * 24 ≤ 140737488355328 := by omega
            have hbase : w.heap.size ≤ wr.heap.size := HR.out.2.size
            have hq1D : Hid (wr.ownsRow w.heap.size 36 1 (.slice p8 D c8) D us) := Lib.hid (by rw [HD.out]; exact q1)
            clear q1 q2 q3 q4 hm
            go_wp2_with (first
              | (go_at_call 102; (with_reducible refine KC.out.mono ?_); rintro e wr ⟨rfl, rfl⟩)
              | (go_at_call 103; (with_reducible refine KD.out.mono ?_); rintro e w7 ⟨hf, v7, rfl, hr7⟩; obtain ⟨us1, gs1, k1, k2, k3, k4⟩ := hr7; rw [← HM2.out] at k1; obtain ⟨g7, c7, rfl, hc7, hb7, hl7⟩ := row_shape k1 hm1; have F7 := Lib.hid (And.intro hf (And.intro k1 (And.intro k2 (And.intro k3 k4)))); have hs7 := hf.size; clear hf k1 k2 k3 k4)
              | (at_builtin; refine wpList_append_own_at _ rfl _ _ _ rfl w.heap.size 36 iB (.slice none 0 0) 1 24 Tryz.underlying23 hiB hzB hzB1 hzB2 rfl (by omega) _ D us rfl (own_frm hq1D.out F7.out.1) ⟨g7, 0, none⟩ m c7 us1 rfl (by have := F7.out.2.1.1; omega) (fun j u hu => F7.out.2.1.cells rfl j u hu) (slice_cells F7.out.2.1 HM2.out F7.out.2.2.2.2) hb1 hb2 (Nat.le_trans hbase hs7) ?_; intro v9 w9 hr9 hg9 hnil hat; have H9 := Lib.hid (And.intro hr9 hg9); clear hr9 hg9 hnil hat))
            obtain ⟨q1, q2, q3, q4⟩ := HQ.out
            obtain ⟨hf7, k1, k2, k3, k4⟩ := F7.out
            obtain ⟨hr9, hg9⟩ := H9.out
            have hg9' : w7.grownBy w9 (Value.slice p8 D c8).ownBlock := hg9
            have hlow : ∀ k, (Value.slice p8 D c8).ownBlock = some k → w.heap.size ≤ k ∧ k < wr.heap.size := fun k hk => own_low hq1D.out hk
            have hrow9 : RecsOwn w9 w.heap.size v9 (done ++ rs) := by
              refine RecsOwn.append (w := wr) (w1 := w7) (v := .slice p8 D c8) (us := us) (us1 := us1) (gs := gs) (gs1 := gs1) (by rw [HD.out] at hq1D ⊢; exact q1) q2 q3 q4 (by rw [HM2.out] at k1; have := k1.1; omega) k2 k3 k4 (Nat.le_refl _) hbase (by rw [← HD.out, ← HM2.out]; exact hr9) (fun k hk hne => (hg9'.block k (by omega) hne).trans (hf7.block k hk id)) (fun k hk hne => hg9'.block k hk hne) (fun g hg => (hlow g hg).2)
            have hfr9 : Frm (fun _ => False) w w9 := (HR.out.2.trans hf7 (fun _ _ h => h)).grown hg9' (fun k e hk => by have := hlow k e; omega)
            have hn2 := hnx.out
            rw [← HM2.out] at hn2
            exact ⟨⟨i + 1, at_ + m, done ++ rs, by go_num, by simp, by rw [HM.out]; exact hn2.1, by omega, by rw [List.length_append, ← HD.out, ← HM2.out]; omega, by rw [HX.out.2.1]; exact hn2.2, hrow9, hfr9⟩, by simp [intOf]; omega⟩
          · have hend := Lib.hid (hgo2.1 hat)
            have hne : ((at_ : Int) != (fst : Int)) = true := by rw [bne_iff_ne]; intro e; exact hat (by omega)
            clear hgo2 hat
            go_wp2_with (first
              | (go_at_call 102; (with_reducible refine KC.out.mono ?_); rintro e wr ⟨rfl, rfl⟩)
              | (go_at_call 103; (with_reducible refine KD.out.mono ?_); rintro e w7 ⟨hf, v7, rfl, hr7⟩; have F7 := Lib.hid hf; obtain ⟨p7, c7, rfl, hc7⟩ := hr7.form; clear hf))
            go_ret2
            rw [hend.out, HD.out]
            exact ⟨_, rfl, HR.out.1.frm F7.out, HR.out.2.trans F7.out (fun _ _ h => h)⟩
    · have hleI : ¬ (b : Int) ≤ (n : Int) := by omega
      have hend : Hid (Sg.scanAll data bad first = (done, i)) := Lib.hid (HS.out.1 (fun h => by have := HAB.out.2.2; omega))
      clear HS KC
      go_wp2
      go_ret2
      rw [hend.out, HD.out]
      exact ⟨_, rfl, HR.out⟩
end Go.Proofs.YtkmmlfphcfcbgaaGreatDoor.Dw

/- errors.Is at errors of errors.New's make: the worked contracts of the guide's SentryIs, turned to this program. -/
namespace Go.Proofs.YtkmmlfphcfcbgaaGreatDoor.Ei
open Go.RowKit Go.Extern.Stop Go.Stop Go.Extern
theorem isTypeOf (v : Value) (w : World) : (Extern.ReflectliteType.typeOf #[.iface 311 v]).run Tryz.prog w = .ok (.iface 282 (.agg #[.pointer (some ⟨23, 311, none⟩)])) w := by kernel_rfl
/-- The model's entry for rtype's Comparable. -/
def cmpM : Array Value → Sem Value := Extern.ReflectliteType.method fun t => do Go.Extern.Rtype.noPackHeld "Comparable" t; pure (.bool (← typeInfo t).comparable)
theorem isComparable (w : World) : (cmpM #[.agg #[.pointer (some ⟨23, 311, none⟩)]]).run Tryz.prog w = .ok (.bool true) w := by kernel_rfl
theorem isMethodComparable (v : Value) (w : World) : (Go.method 475 282 v "Comparable").run Tryz.prog w = .ok (306, v) w := by kernel_rfl
theorem isComp : (Tryz.prog.info? 311).map (·.comparable) = some true := by kernel_rfl
theorem isSize : (Tryz.prog.info? 313).map (·.size) = some 1 := by kernel_rfl
theorem noIsE (v : Value) (xT : TypeId) (w : World) : (Instr.typeAssert (.iface 311 v) xT 284 true).run Tryz.prog w = .ok (.tuple #[.nilIface, .bool false]) w := run_typeAssert_lacksB Tryz.underlying284 (by kernel_rfl) (by kernel_rfl) v xT w
theorem noUnwrapE (v : Value) (xT : TypeId) (w : World) : (Instr.typeAssert (.iface 311 v) xT 287 true).run Tryz.prog w = .ok (.tuple #[.nilIface, .bool false]) w := run_typeAssert_lacksB Tryz.underlying287 (by kernel_rfl) (by kernel_rfl) v xT w
theorem noUnwrapsE (v : Value) (xT : TypeId) (w : World) : (Instr.typeAssert (.iface 311 v) xT 288 true).run Tryz.prog w = .ok (.tuple #[.nilIface, .bool false]) w := run_typeAssert_lacksB Tryz.underlying288 (by kernel_rfl) (by kernel_rfl) v xT w
/-- errors.Is(x, x), x a pointer to an errors.errorString. -/
theorem is_same (a : Addr) (w : World) :
    Calls Tryz.prog 127 #[.iface 311 (.pointer (some a)), .iface 311 (.pointer (some a))] w fun e w' => e = .returned (.bool true) ∧ w' = w := by
  obtain ⟨i, hi, hcmp⟩ := Option.map_eq_some_iff.1 isComp
  obtain ⟨j, hj, hjs⟩ := Option.map_eq_some_iff.1 isSize
  have h8 := @run_callFunc_extern Tryz.prog 164 _ Extern.ReflectliteType.typeOf Tryz.func164 (by kernel_rfl) (by kernel_rfl) (by kernel_rfl) (by kernel_rfl)
  have h32 := @run_callFunc_extern Tryz.prog 306 _ cmpM Tryz.func306 (by kernel_rfl) (by kernel_rfl) (by kernel_rfl) (by kernel_rfl)
  have tT := isTypeOf
  have cT := isComparable
  have mR := isMethodComparable
  have heq := run_eql_iface_ptr_same (P := Tryz.prog) w a Tryz.underlying33 Tryz.underlying311 hi hcmp hj
  go_enter Tryz.func127, Tryz.ntmps127
  go_wp2
  refine wp_loop_rounds 1 ?_
  rw [rounds_succ]
  go_wp2
  go_ret
  exact ⟨rfl, rfl⟩
/-- errors.Is(nil, x). -/
theorem is_nil (b : Addr) (w : World) :
    Calls Tryz.prog 127 #[.nilIface, .iface 311 (.pointer (some b))] w fun e w' => e = .returned (.bool false) ∧ w' = w := by
  have hn := run_eql_iface_nil_left (P := Tryz.prog) w 311 (.pointer (some b)) Tryz.underlying33
  go_enter Tryz.func127, Tryz.ntmps127
  go_wp2
  go_ret
  exact ⟨rfl, rfl⟩
/-- errors.Is(x, y), two different pointers to errors.errorString. -/
theorem is_other (a b : Addr) (ca cb : Array Value) (ta tb : TypeId) (w : World) (hne : a ≠ b) (ha : w.heap[a.block]? = some (.cells ca ta (0, 0))) (hb : w.heap[b.block]? = some (.cells cb tb (0, 0))) :
    Calls Tryz.prog 127 #[.iface 311 (.pointer (some a)), .iface 311 (.pointer (some b))] w fun e w' => e = .returned (.bool false) ∧ w' = w := by
  obtain ⟨i, hi, hcmp⟩ := Option.map_eq_some_iff.1 isComp
  obtain ⟨j, hj, hjs⟩ := Option.map_eq_some_iff.1 isSize
  have h8 := @run_callFunc_extern Tryz.prog 164 _ Extern.ReflectliteType.typeOf Tryz.func164 (by kernel_rfl) (by kernel_rfl) (by kernel_rfl) (by kernel_rfl)
  have h32 := @run_callFunc_extern Tryz.prog 306 _ cmpM Tryz.func306 (by kernel_rfl) (by kernel_rfl) (by kernel_rfl) (by kernel_rfl)
  have tT := isTypeOf
  have cT := isComparable
  have mR := isMethodComparable
  have nE := noIsE
  have uE := noUnwrapE
  have vE := noUnwrapsE
  have heq := run_eql_iface_ptr_other (P := Tryz.prog) w Tryz.underlying33 Tryz.underlying311 hi hcmp hj (by rw [hjs]; decide) hne ha hb
  go_enter Tryz.func127, Tryz.ntmps127
  go_wp2
  refine wp_loop_rounds 1 ?_
  rw [rounds_succ]
  go_wp2
  go_ret
  exact ⟨rfl, rfl⟩
end Go.Proofs.YtkmmlfphcfcbgaaGreatDoor.Ei

/- Walks: how an operation runs. -/
namespace Go.Proofs.YtkmmlfphcfcbgaaGreatDoor.Dw
open Go.RowKit Go.ChangeMaps Go.Proofs.YtkmmlfphcfcbgaaGreatDoor.Mp Go.Proofs.YtkmmlfphcfcbgaaGreatDoor.Dm Go.Proofs.YtkmmlfphcfcbgaaGreatDoor.Da
set_option linter.unusedVariables false
set_option linter.unusedSimpArgs false
set_option linter.unusedSectionVars false
theorem tick_ext {B : Nat} {w : World} {b : Nat} {A : Adr} {lab : Nat → Option Lb} {D : Disk} (h : DiskAt B w b A lab D) :
    DiskAt B ((w.setCell ⟨b, 4, none⟩ (.int .i64 (D.count + 1))).setCell ⟨b, 5, none⟩ (.int .i64 (D.since + 1))) b A lab D.tick ∧
      Frm (Ft lab) w ((w.setCell ⟨b, 4, none⟩ (.int .i64 (D.count + 1))).setCell ⟨b, 5, none⟩ (.int .i64 (D.since + 1))) := by
  have hF : Ft lab b := by unfold Ft; rw [h.lb]; rfl
  constructor
  · refine h.scalar (D' := D.tick) ?_ ?_ ?_ rfl rfl rfl rfl rfl
    · rw [blk_set (blk_set h.blk)]
      simp [mainCells, Disk.tick]
    · intro k hk hne
      rw [blk_set_ne hne, blk_set_ne hne]
    · simp
  · exact ((Frm.refl _ _).setCell _ _ (fun _ => hF)).setCell _ _ (fun _ => hF)
theorem dark_ext {B : Nat} {w : World} {b : Nat} {A : Adr} {lab : Nat → Option Lb} {D : Disk} (h : DiskAt B w b A lab D) :
    DiskAt B (w.setCell ⟨b, 8, none⟩ (.bool true)) b A lab D.dark ∧ Frm (Ft lab) w (w.setCell ⟨b, 8, none⟩ (.bool true)) := by
  have hF : Ft lab b := by unfold Ft; rw [h.lb]; rfl
  constructor
  · refine h.scalar (D' := D.dark) ?_ ?_ ?_ rfl rfl rfl rfl rfl
    · rw [blk_set h.blk]
      simp [mainCells, Disk.dark]
    · intro k hk hne
      rw [blk_set_ne hne]
    · simp
  · exact (Frm.refl _ _).setCell _ _ (fun _ => hF)
theorem neq_nilFunc (W : World) : (binOp .neq 129 .nilFunc .nilFunc).run Tryz.prog W = .ok (.bool false) W := by kernel_rfl
theorem neq_func (f : Fn) (x y : Array Value) (W : World) : (binOp .neq 129 (.func f x y) .nilFunc).run Tryz.prog W = .ok (.bool true) W := by kernel_rfl
/-- A closure of the program can be called. -/
def Callable (f : FuncId) (args : Array Value) : Prop := ∀ W, (callFunc f args).run Tryz.prog W = .ok (.enter f args) W
set_option maxRecDepth 100000 in
theorem run_off {B : Nat} {w : World} {b : Nat} {A : Adr} {lab : Nat → Option Lb} {D : Disk} {eb : Nat → Addr} {L : List Err} (h : DiskAt B w b A lab D) (he : ErrsAt B w eb L) (hoff : D.off = true) (plan : Value) :
    Calls Tryz.prog 70 #[dptr b, plan] w fun e w' => e = .returned (errV eb eDown) ∧ w' = w := by
  have c8 : w.cell? ⟨b, 8, none⟩ = some (.bool true) := main_cell h.blk (by rw [← hoff]; rfl)
  have cd := he.down
  unfold dptr
  go_enter Tryz.func70, Tryz.ntmps70
  go_wp2
  go_ret
  exact ⟨rfl, rfl⟩
set_option maxHeartbeats 4000000 in
set_option maxRecDepth 100000 in
theorem run_cut {B : Nat} {w : World} {b : Nat} {A : Adr} {lab : Nat → Option Lb} {D : Disk} {eb : Nat → Addr} {L : List Err} (h : DiskAt B w b A lab D) (he : ErrsAt B w eb L) (hoff : D.off = false)
    (hc : D.count < 4611686018427387904) (hs : D.since < 4611686018427387904) (hcut : D.tick.armed = .cut)
    (pf : FuncId) (caps : Array Value) (hpf : Callable pf caps) (ref : Err) (wt : Bool) (df : FuncId) (dcaps : Array Value) (hdf : Callable df dcaps) (pv : Value) (hpv : pv = .nilFunc ∨ ∃ qf qcaps, pv = .func (.func qf) #[] qcaps) (act : Disk → Disk)
    (hplan : ∀ W, Ext B b lab w W D.tick → Calls Tryz.prog pf caps W fun e W' => e = .returned (.agg #[errV eb ref, .func (.func df) #[] dcaps, .bool wt, pv]) ∧ Ext B b lab w W' D.tick)
    (hdo : ref = 0 → wt = true → ∀ W D1, D1 = D.tick.dark → Ext B b lab w W D1 → Calls Tryz.prog df dcaps W fun e W' => e = .returned (.tuple #[]) ∧ Ext B b lab w W' (act D1)) :
    Calls Tryz.prog 70 #[dptr b, .func (.func pf) #[] caps] w fun e W' => e = .returned (errV eb eDown) ∧ Ext B b lab w W' (if ref = 0 ∧ wt = true then act D.tick.dark else D.tick.dark) := by
  have c8 : w.cell? ⟨b, 8, none⟩ = some (.bool false) := main_cell h.blk (by rw [← hoff]; rfl)
  have c4 : w.cell? ⟨b, 4, none⟩ = some (.int .i64 D.count) := main_cell h.blk rfl
  have c5 : w.cell? ⟨b, 5, none⟩ = some (.int .i64 D.since) := main_cell h.blk rfl
  have f4 : w.frozen? ⟨b, 4, none⟩ = false := frozen_of h.blk
  have f5 : w.frozen? ⟨b, 5, none⟩ = false := frozen_of h.blk
  obtain ⟨t1, t2⟩ := tick_ext h
  have T := Lib.hid (Ext.trans (w0 := w) t2 (fun k _ hk => hk) (Ext.refl t1))
  clear t1 t2
  have HP := Lib.hid hplan
  have HD := Lib.hid hdo
  have HPF := hpf
  unfold Callable at hpf
  clear hplan hdo
  have hft : ∀ k, Ft lab k → B ≤ k := fun k hk => by obtain ⟨p, hp⟩ := Option.isSome_iff_exists.1 hk; exact (h.base k p hp).1
  have HC := Lib.hid hcut
  clear hcut
  unfold Callable at hdf
  generalize hR : (if ref = 0 ∧ wt = true then act D.tick.dark else D.tick.dark) = R
  unfold dptr
  by_cases href : ref = 0
  · have hrv : errV eb ref = .nilIface := by rw [href]; rfl
    rw [hrv] at HP
    clear hrv
    rcases hpv with rfl | ⟨qf, qcaps, rfl⟩
    all_goals
      cases wt with
      | true =>
        have HR2 : Hid (act D.tick.dark = R) := by rw [← hR, if_pos ⟨href, rfl⟩]; exact rfl
        have HR := Lib.hid href
        clear href hR
        go_enter Tryz.func70, Tryz.ntmps70
        go_wp2_with fail
        refine (HP.out _ T.out).mono ?_
        rintro e w1 ⟨rfl, hx⟩
        clear T HP
        obtain ⟨A1, lab1, h1, hf1, hl1⟩ := hx
        have he1 := Lib.hid (he.frm hf1 hft)
        have H1 := Lib.hid h1
        go_wp2_with fail
        refine (armed_calls (H1.out.alloc _) (he1.out.alloc _)).mono ?_
        rw [HC.out]
        rintro e w2 ⟨rfl, hf2⟩
        unfold whatV
        rw [errV_pos _ _ (by decide)]
        have he2 := Lib.hid (ErrsAt.frm (he1.out.alloc _) hf2 (fun _ h => h.elim))
        have H2 := Lib.hid (DiskAt.frame (H1.out.alloc _) hf2 (fun _ h => h.elim))
        have HX := Lib.hid (Ext.trans (w0 := w) (w2 := w2) (D2 := D.tick) (hf1.trans (((Frm.refl (fun _ => False) w1).alloc _).trans hf2 (fun _ _ h => h)) (fun _ _ h => h.elim)) hl1 (Ext.refl H2.out))
        have cd2 := he2.out.down
        have hop2 := Lib.hid ((hf2.block w1.heap.size (by simp) id).trans blk_alloc)
        have o0 := cell_of (i := 0) hop2.out rfl
        have o1 := cell_of (i := 1) hop2.out rfl
        have o2 := cell_of (i := 2) hop2.out rfl
        have c82 : w2.cell? ⟨b, 8, none⟩ = some (.bool D.tick.off) := main_cell H2.out.blk rfl
        have f82 : w2.frozen? ⟨b, 8, none⟩ = false := frozen_of H2.out.blk
        have hne := World.new_ne w1 ⟨b, 8, none⟩ (main_cell H1.out.blk rfl)
        go_wp2_with (first | (go_at_call 127; refine (Ei.is_same _ _).mono ?_; rintro e w' ⟨rfl, rfl⟩))
        obtain ⟨d1, d2⟩ := dark_ext H2.out
        refine (HD.out HR.out (by trivial) _ _ (by trivial) (Ext.trans (hf1.trans (((Frm.refl (fun _ => False) w1).alloc _).trans hf2 (fun _ _ h => h)) (fun _ _ h => h.elim)) hl1 (Ext.trans d2 (fun _ _ h => h) (Ext.refl d1)))).mono ?_
        clear d1 d2
        rintro e w3 ⟨rfl, hx3⟩
        rw [HR2.out] at hx3
        go_wp2
        go_ret
        exact ⟨rfl, hx3⟩
      | false =>
        have HR2 : Hid (D.tick.dark = R) := by rw [← hR, if_neg (by simp)]; exact rfl
        clear href hR
        go_enter Tryz.func70, Tryz.ntmps70
        go_wp2_with fail
        refine (HP.out _ T.out).mono ?_
        rintro e w1 ⟨rfl, hx⟩
        clear T HP
        obtain ⟨A1, lab1, h1, hf1, hl1⟩ := hx
        have he1 := Lib.hid (he.frm hf1 hft)
        have H1 := Lib.hid h1
        go_wp2_with fail
        refine (armed_calls (H1.out.alloc _) (he1.out.alloc _)).mono ?_
        rw [HC.out]
        rintro e w2 ⟨rfl, hf2⟩
        unfold whatV
        rw [errV_pos _ _ (by decide)]
        have he2 := Lib.hid (ErrsAt.frm (he1.out.alloc _) hf2 (fun _ h => h.elim))
        have H2 := Lib.hid (DiskAt.frame (H1.out.alloc _) hf2 (fun _ h => h.elim))
        have HX := Lib.hid (Ext.trans (w0 := w) (w2 := w2) (D2 := D.tick) (hf1.trans (((Frm.refl (fun _ => False) w1).alloc _).trans hf2 (fun _ _ h => h)) (fun _ _ h => h.elim)) hl1 (Ext.refl H2.out))
        have cd2 := he2.out.down
        have hop2 := Lib.hid ((hf2.block w1.heap.size (by simp) id).trans blk_alloc)
        have o0 := cell_of (i := 0) hop2.out rfl
        have o1 := cell_of (i := 1) hop2.out rfl
        have o2 := cell_of (i := 2) hop2.out rfl
        have c82 : w2.cell? ⟨b, 8, none⟩ = some (.bool D.tick.off) := main_cell H2.out.blk rfl
        have f82 : w2.frozen? ⟨b, 8, none⟩ = false := frozen_of H2.out.blk
        have hne := World.new_ne w1 ⟨b, 8, none⟩ (main_cell H1.out.blk rfl)
        go_wp2_with (first | (go_at_call 127; refine (Ei.is_same _ _).mono ?_; rintro e w' ⟨rfl, rfl⟩))
        go_ret
        obtain ⟨d1, d2⟩ := dark_ext H2.out
        rw [← HR2.out]
        exact ⟨rfl, Ext.trans (hf1.trans (((Frm.refl (fun _ => False) w1).alloc _).trans hf2 (fun _ _ h => h)) (fun _ _ h => h.elim)) hl1 (Ext.trans d2 (fun _ _ h => h) (Ext.refl d1))⟩
  · have hrv : errV eb ref = .iface 311 (.pointer (some (eb ref))) := errV_pos _ _ href
    rw [hrv] at HP
    clear hrv
    rcases hpv with rfl | ⟨qf, qcaps, rfl⟩
    all_goals
      cases wt with
      | true =>
        have HR2 : Hid (D.tick.dark = R) := by rw [← hR, if_neg (fun h => href h.1)]; exact rfl
        clear href hR
        go_enter Tryz.func70, Tryz.ntmps70
        go_wp2_with fail
        refine (HP.out _ T.out).mono ?_
        rintro e w1 ⟨rfl, hx⟩
        clear T HP
        obtain ⟨A1, lab1, h1, hf1, hl1⟩ := hx
        have he1 := Lib.hid (he.frm hf1 hft)
        have H1 := Lib.hid h1
        go_wp2_with fail
        refine (armed_calls (H1.out.alloc _) (he1.out.alloc _)).mono ?_
        rw [HC.out]
        rintro e w2 ⟨rfl, hf2⟩
        unfold whatV
        rw [errV_pos _ _ (by decide)]
        have he2 := Lib.hid (ErrsAt.frm (he1.out.alloc _) hf2 (fun _ h => h.elim))
        have H2 := Lib.hid (DiskAt.frame (H1.out.alloc _) hf2 (fun _ h => h.elim))
        have HX := Lib.hid (Ext.trans (w0 := w) (w2 := w2) (D2 := D.tick) (hf1.trans (((Frm.refl (fun _ => False) w1).alloc _).trans hf2 (fun _ _ h => h)) (fun _ _ h => h.elim)) hl1 (Ext.refl H2.out))
        have cd2 := he2.out.down
        have hop2 := Lib.hid ((hf2.block w1.heap.size (by simp) id).trans blk_alloc)
        have o0 := cell_of (i := 0) hop2.out rfl
        have o1 := cell_of (i := 1) hop2.out rfl
        have o2 := cell_of (i := 2) hop2.out rfl
        have c82 : w2.cell? ⟨b, 8, none⟩ = some (.bool D.tick.off) := main_cell H2.out.blk rfl
        have f82 : w2.frozen? ⟨b, 8, none⟩ = false := frozen_of H2.out.blk
        have hne := World.new_ne w1 ⟨b, 8, none⟩ (main_cell H1.out.blk rfl)
        go_wp2_with (first | (go_at_call 127; refine (Ei.is_same _ _).mono ?_; rintro e w' ⟨rfl, rfl⟩))
        go_ret
        obtain ⟨d1, d2⟩ := dark_ext H2.out
        rw [← HR2.out]
        exact ⟨rfl, Ext.trans (hf1.trans (((Frm.refl (fun _ => False) w1).alloc _).trans hf2 (fun _ _ h => h)) (fun _ _ h => h.elim)) hl1 (Ext.trans d2 (fun _ _ h => h) (Ext.refl d1))⟩
      | false =>
        have HR2 : Hid (D.tick.dark = R) := by rw [← hR, if_neg (fun h => href h.1)]; exact rfl
        clear href hR
        go_enter Tryz.func70, Tryz.ntmps70
        go_wp2_with fail
        refine (HP.out _ T.out).mono ?_
        rintro e w1 ⟨rfl, hx⟩
        clear T HP
        obtain ⟨A1, lab1, h1, hf1, hl1⟩ := hx
        have he1 := Lib.hid (he.frm hf1 hft)
        have H1 := Lib.hid h1
        go_wp2_with fail
        refine (armed_calls (H1.out.alloc _) (he1.out.alloc _)).mono ?_
        rw [HC.out]
        rintro e w2 ⟨rfl, hf2⟩
        unfold whatV
        rw [errV_pos _ _ (by decide)]
        have he2 := Lib.hid (ErrsAt.frm (he1.out.alloc _) hf2 (fun _ h => h.elim))
        have H2 := Lib.hid (DiskAt.frame (H1.out.alloc _) hf2 (fun _ h => h.elim))
        have HX := Lib.hid (Ext.trans (w0 := w) (w2 := w2) (D2 := D.tick) (hf1.trans (((Frm.refl (fun _ => False) w1).alloc _).trans hf2 (fun _ _ h => h)) (fun _ _ h => h.elim)) hl1 (Ext.refl H2.out))
        have cd2 := he2.out.down
        have hop2 := Lib.hid ((hf2.block w1.heap.size (by simp) id).trans blk_alloc)
        have o0 := cell_of (i := 0) hop2.out rfl
        have o1 := cell_of (i := 1) hop2.out rfl
        have o2 := cell_of (i := 2) hop2.out rfl
        have c82 : w2.cell? ⟨b, 8, none⟩ = some (.bool D.tick.off) := main_cell H2.out.blk rfl
        have f82 : w2.frozen? ⟨b, 8, none⟩ = false := frozen_of H2.out.blk
        have hne := World.new_ne w1 ⟨b, 8, none⟩ (main_cell H1.out.blk rfl)
        go_wp2_with (first | (go_at_call 127; refine (Ei.is_same _ _).mono ?_; rintro e w' ⟨rfl, rfl⟩))
        go_ret
        obtain ⟨d1, d2⟩ := dark_ext H2.out
        rw [← HR2.out]
        exact ⟨rfl, Ext.trans (hf1.trans (((Frm.refl (fun _ => False) w1).alloc _).trans hf2 (fun _ _ h => h)) (fun _ _ h => h.elim)) hl1 (Ext.trans d2 (fun _ _ h => h) (Ext.refl d1))⟩
end Go.Proofs.YtkmmlfphcfcbgaaGreatDoor.Dw

/- Walks: how an operation runs, where it fails and where it goes. -/
namespace Go.Proofs.YtkmmlfphcfcbgaaGreatDoor.Dw
open Go.RowKit Go.ChangeMaps Go.Proofs.YtkmmlfphcfcbgaaGreatDoor.Mp Go.Proofs.YtkmmlfphcfcbgaaGreatDoor.Dm Go.Proofs.YtkmmlfphcfcbgaaGreatDoor.Da
set_option linter.unusedVariables false
set_option linter.unusedSimpArgs false
set_option linter.unusedSectionVars false
set_option maxHeartbeats 4000000 in
set_option maxRecDepth 100000 in
theorem run_fails {B : Nat} {w : World} {b : Nat} {A : Adr} {lab : Nat → Option Lb} {D : Disk} {eb : Nat → Addr} {L : List Err} (h : DiskAt B w b A lab D) (he : ErrsAt B w eb L) (hoff : D.off = false)
    (hc : D.count < 4611686018427387904) (hs : D.since < 4611686018427387904) (n : Int) (harm : D.tick.armed = .fails n)
    (pf : FuncId) (caps : Array Value) (hpf : Callable pf caps) (ref : Err) (wt : Bool) (df : FuncId) (dcaps : Array Value) (hdf : Callable df dcaps) (pv : Value) (part : Option (Int → Disk → Disk))
    (hpv : (pv = .nilFunc ∧ part = none) ∨ ∃ qf qcaps p, pv = .func (.func qf) #[] qcaps ∧ part = some p ∧ Callable qf (#[.int .i64 n] ++ qcaps) ∧
      (ref = 0 → ∀ W, Ext B b lab w W D.tick → Calls Tryz.prog qf (#[.int .i64 n] ++ qcaps) W fun e W' => e = .returned (.tuple #[]) ∧ Ext B b lab w W' (p n D.tick)))
    (hplan : ∀ W, Ext B b lab w W D.tick → Calls Tryz.prog pf caps W fun e W' => e = .returned (.agg #[errV eb ref, .func (.func df) #[] dcaps, .bool wt, pv]) ∧ Ext B b lab w W' D.tick) :
    Calls Tryz.prog 70 #[dptr b, .func (.func pf) #[] caps] w fun e W' => e = .returned (errV eb eIo) ∧ Ext B b lab w W' (failTo ref n part D.tick) := by
  have c8 : w.cell? ⟨b, 8, none⟩ = some (.bool false) := main_cell h.blk (by rw [← hoff]; rfl)
  have c4 : w.cell? ⟨b, 4, none⟩ = some (.int .i64 D.count) := main_cell h.blk rfl
  have c5 : w.cell? ⟨b, 5, none⟩ = some (.int .i64 D.since) := main_cell h.blk rfl
  have f4 : w.frozen? ⟨b, 4, none⟩ = false := frozen_of h.blk
  have f5 : w.frozen? ⟨b, 5, none⟩ = false := frozen_of h.blk
  obtain ⟨t1, t2⟩ := tick_ext h
  have T := Lib.hid (Ext.trans (w0 := w) t2 (fun k _ hk => hk) (Ext.refl t1))
  clear t1 t2
  have HP := Lib.hid hplan
  have HPF := hpf
  unfold Callable at hpf
  clear hplan
  have qn := neq_nilFunc
  have qf' := neq_func
  have hft : ∀ k, Ft lab k → B ≤ k := fun k hk => by obtain ⟨p, hp⟩ := Option.isSome_iff_exists.1 hk; exact (h.base k p hp).1
  have HC := Lib.hid harm
  clear harm
  unfold Callable at hdf
  unfold dptr
  generalize hR : (failTo ref n part D.tick) = R
  rcases hpv with ⟨rfl, rfl⟩ | ⟨qf, qcaps, p, rfl, rfl, hqf, hq⟩
  · have HR2 : Hid (D.tick = R) := hR
    clear hR
    by_cases href : ref = 0
    · have hrv : errV eb ref = .nilIface := by rw [href]; rfl
      rw [hrv] at HP
      clear hrv href
      go_enter Tryz.func70, Tryz.ntmps70
      go_wp2_with fail
      refine (HP.out _ T.out).mono ?_
      rintro e w1 ⟨rfl, hx⟩
      clear T HP
      obtain ⟨A1, lab1, h1, hf1, hl1⟩ := hx
      have he1 := Lib.hid (he.frm hf1 hft)
      have H1 := Lib.hid h1
      go_wp2_with fail
      refine (armed_calls (H1.out.alloc _) (he1.out.alloc _)).mono ?_
      rw [HC.out]
      rintro e w2 ⟨rfl, hf2⟩
      unfold whatV
      rw [errV_pos eb eIo (by decide)]
      have he2 := Lib.hid (ErrsAt.frm (he1.out.alloc _) hf2 (fun _ h => h.elim))
      have H2 := Lib.hid (DiskAt.frame (H1.out.alloc _) hf2 (fun _ h => h.elim))
      have HX := Lib.hid (Ext.trans (w0 := w) (w2 := w2) (D2 := D.tick) (hf1.trans (((Frm.refl (fun _ => False) w1).alloc _).trans hf2 (fun _ _ h => h)) (fun _ _ h => h.elim)) hl1 (Ext.refl H2.out))
      have cd2 := he2.out.down
      have hop2 := Lib.hid ((hf2.block w1.heap.size (by simp) id).trans blk_alloc)
      have o0 := cell_of (i := 0) hop2.out rfl
      have o1 := cell_of (i := 1) hop2.out rfl
      have o2 := cell_of (i := 2) hop2.out rfl
      have ci2 := he2.out.io
      have o3 := cell_of (i := 3) hop2.out rfl
      obtain ⟨x6, t6, hx6⟩ := he2.out.blk 6 (he2.out.six 6 (by simp))
      obtain ⟨x7, t7, hx7⟩ := he2.out.blk 7 (he2.out.six 7 (by simp))
      have h67 : eb 6 ≠ eb 7 := fun e => absurd (he2.out.inj 6 7 (he2.out.six 6 (by simp)) (he2.out.six 7 (by simp)) e) (by decide)
      go_wp2_with (first | (go_at_call 127; (with_reducible refine (Ei.is_same _ _).mono ?_); rintro e w' ⟨rfl, rfl⟩) | (go_at_call 127; refine (Ei.is_other _ _ _ _ _ _ _ h67 hx6 hx7).mono ?_; rintro e w' ⟨rfl, rfl⟩))
      go_ret
      rw [← HR2.out]
      exact ⟨rfl, HX.out⟩
    · have hrv : errV eb ref = .iface 311 (.pointer (some (eb ref))) := errV_pos _ _ href
      rw [hrv] at HP
      clear hrv href
      go_enter Tryz.func70, Tryz.ntmps70
      go_wp2_with fail
      refine (HP.out _ T.out).mono ?_
      rintro e w1 ⟨rfl, hx⟩
      clear T HP
      obtain ⟨A1, lab1, h1, hf1, hl1⟩ := hx
      have he1 := Lib.hid (he.frm hf1 hft)
      have H1 := Lib.hid h1
      go_wp2_with fail
      refine (armed_calls (H1.out.alloc _) (he1.out.alloc _)).mono ?_
      rw [HC.out]
      rintro e w2 ⟨rfl, hf2⟩
      unfold whatV
      rw [errV_pos eb eIo (by decide)]
      have he2 := Lib.hid (ErrsAt.frm (he1.out.alloc _) hf2 (fun _ h => h.elim))
      have H2 := Lib.hid (DiskAt.frame (H1.out.alloc _) hf2 (fun _ h => h.elim))
      have HX := Lib.hid (Ext.trans (w0 := w) (w2 := w2) (D2 := D.tick) (hf1.trans (((Frm.refl (fun _ => False) w1).alloc _).trans hf2 (fun _ _ h => h)) (fun _ _ h => h.elim)) hl1 (Ext.refl H2.out))
      have cd2 := he2.out.down
      have hop2 := Lib.hid ((hf2.block w1.heap.size (by simp) id).trans blk_alloc)
      have o0 := cell_of (i := 0) hop2.out rfl
      have o1 := cell_of (i := 1) hop2.out rfl
      have o2 := cell_of (i := 2) hop2.out rfl
      have ci2 := he2.out.io
      have o3 := cell_of (i := 3) hop2.out rfl
      obtain ⟨x6, t6, hx6⟩ := he2.out.blk 6 (he2.out.six 6 (by simp))
      obtain ⟨x7, t7, hx7⟩ := he2.out.blk 7 (he2.out.six 7 (by simp))
      have h67 : eb 6 ≠ eb 7 := fun e => absurd (he2.out.inj 6 7 (he2.out.six 6 (by simp)) (he2.out.six 7 (by simp)) e) (by decide)
      go_wp2_with (first | (go_at_call 127; (with_reducible refine (Ei.is_same _ _).mono ?_); rintro e w' ⟨rfl, rfl⟩) | (go_at_call 127; refine (Ei.is_other _ _ _ _ _ _ _ h67 hx6 hx7).mono ?_; rintro e w' ⟨rfl, rfl⟩))
      go_ret
      rw [← HR2.out]
      exact ⟨rfl, HX.out⟩
  · unfold Callable at hqf
    have HQ := Lib.hid hq
    clear hq
    by_cases href : ref = 0
    · have HR2 : Hid (p n D.tick = R) := by show p n D.tick = R; rw [← hR]; simp [failTo, href]
      have HR := Lib.hid href
      have hrv : errV eb ref = .nilIface := by rw [href]; rfl
      rw [hrv] at HP
      clear hrv href hR
      go_enter Tryz.func70, Tryz.ntmps70
      go_wp2_with fail
      refine (HP.out _ T.out).mono ?_
      rintro e w1 ⟨rfl, hx⟩
      clear T HP
      obtain ⟨A1, lab1, h1, hf1, hl1⟩ := hx
      have he1 := Lib.hid (he.frm hf1 hft)
      have H1 := Lib.hid h1
      go_wp2_with fail
      refine (armed_calls (H1.out.alloc _) (he1.out.alloc _)).mono ?_
      rw [HC.out]
      rintro e w2 ⟨rfl, hf2⟩
      unfold whatV
      rw [errV_pos eb eIo (by decide)]
      have he2 := Lib.hid (ErrsAt.frm (he1.out.alloc _) hf2 (fun _ h => h.elim))
      have H2 := Lib.hid (DiskAt.frame (H1.out.alloc _) hf2 (fun _ h => h.elim))
      have HX := Lib.hid (Ext.trans (w0 := w) (w2 := w2) (D2 := D.tick) (hf1.trans (((Frm.refl (fun _ => False) w1).alloc _).trans hf2 (fun _ _ h => h)) (fun _ _ h => h.elim)) hl1 (Ext.refl H2.out))
      have cd2 := he2.out.down
      have hop2 := Lib.hid ((hf2.block w1.heap.size (by simp) id).trans blk_alloc)
      have o0 := cell_of (i := 0) hop2.out rfl
      have o1 := cell_of (i := 1) hop2.out rfl
      have o2 := cell_of (i := 2) hop2.out rfl
      have ci2 := he2.out.io
      have o3 := cell_of (i := 3) hop2.out rfl
      obtain ⟨x6, t6, hx6⟩ := he2.out.blk 6 (he2.out.six 6 (by simp))
      obtain ⟨x7, t7, hx7⟩ := he2.out.blk 7 (he2.out.six 7 (by simp))
      have h67 : eb 6 ≠ eb 7 := fun e => absurd (he2.out.inj 6 7 (he2.out.six 6 (by simp)) (he2.out.six 7 (by simp)) e) (by decide)
      go_wp2_with (first | (go_at_call 127; (with_reducible refine (Ei.is_same _ _).mono ?_); rintro e w' ⟨rfl, rfl⟩) | (go_at_call 127; refine (Ei.is_other _ _ _ _ _ _ _ h67 hx6 hx7).mono ?_; rintro e w' ⟨rfl, rfl⟩))
      refine (HQ.out HR.out _ HX.out).mono ?_
      rintro e w3 ⟨rfl, hx3⟩
      rw [HR2.out] at hx3
      go_wp2
      go_ret
      exact ⟨rfl, hx3⟩
    · have HR2 : Hid (D.tick = R) := by show D.tick = R; rw [← hR]; simp [failTo, href]
      have hrv : errV eb ref = .iface 311 (.pointer (some (eb ref))) := errV_pos _ _ href
      rw [hrv] at HP
      clear hrv href hR
      go_enter Tryz.func70, Tryz.ntmps70
      go_wp2_with fail
      refine (HP.out _ T.out).mono ?_
      rintro e w1 ⟨rfl, hx⟩
      clear T HP
      obtain ⟨A1, lab1, h1, hf1, hl1⟩ := hx
      have he1 := Lib.hid (he.frm hf1 hft)
      have H1 := Lib.hid h1
      go_wp2_with fail
      refine (armed_calls (H1.out.alloc _) (he1.out.alloc _)).mono ?_
      rw [HC.out]
      rintro e w2 ⟨rfl, hf2⟩
      unfold whatV
      rw [errV_pos eb eIo (by decide)]
      have he2 := Lib.hid (ErrsAt.frm (he1.out.alloc _) hf2 (fun _ h => h.elim))
      have H2 := Lib.hid (DiskAt.frame (H1.out.alloc _) hf2 (fun _ h => h.elim))
      have HX := Lib.hid (Ext.trans (w0 := w) (w2 := w2) (D2 := D.tick) (hf1.trans (((Frm.refl (fun _ => False) w1).alloc _).trans hf2 (fun _ _ h => h)) (fun _ _ h => h.elim)) hl1 (Ext.refl H2.out))
      have cd2 := he2.out.down
      have hop2 := Lib.hid ((hf2.block w1.heap.size (by simp) id).trans blk_alloc)
      have o0 := cell_of (i := 0) hop2.out rfl
      have o1 := cell_of (i := 1) hop2.out rfl
      have o2 := cell_of (i := 2) hop2.out rfl
      have ci2 := he2.out.io
      have o3 := cell_of (i := 3) hop2.out rfl
      obtain ⟨x6, t6, hx6⟩ := he2.out.blk 6 (he2.out.six 6 (by simp))
      obtain ⟨x7, t7, hx7⟩ := he2.out.blk 7 (he2.out.six 7 (by simp))
      have h67 : eb 6 ≠ eb 7 := fun e => absurd (he2.out.inj 6 7 (he2.out.six 6 (by simp)) (he2.out.six 7 (by simp)) e) (by decide)
      go_wp2_with (first | (go_at_call 127; (with_reducible refine (Ei.is_same _ _).mono ?_); rintro e w' ⟨rfl, rfl⟩) | (go_at_call 127; refine (Ei.is_other _ _ _ _ _ _ _ h67 hx6 hx7).mono ?_; rintro e w' ⟨rfl, rfl⟩))
      go_ret
      rw [← HR2.out]
      exact ⟨rfl, HX.out⟩
end Go.Proofs.YtkmmlfphcfcbgaaGreatDoor.Dw

/- Walks: how an operation runs, where it fails and where it goes. -/
namespace Go.Proofs.YtkmmlfphcfcbgaaGreatDoor.Dw
open Go.RowKit Go.ChangeMaps Go.Proofs.YtkmmlfphcfcbgaaGreatDoor.Mp Go.Proofs.YtkmmlfphcfcbgaaGreatDoor.Dm Go.Proofs.YtkmmlfphcfcbgaaGreatDoor.Da
set_option linter.unusedVariables false
set_option linter.unusedSimpArgs false
set_option linter.unusedSectionVars false
set_option maxHeartbeats 4000000 in
set_option maxRecDepth 100000 in
theorem run_goes {B : Nat} {w : World} {b : Nat} {A : Adr} {lab : Nat → Option Lb} {D : Disk} {eb : Nat → Addr} {L : List Err} (h : DiskAt B w b A lab D) (he : ErrsAt B w eb L) (hoff : D.off = false)
    (hc : D.count < 4611686018427387904) (hs : D.since < 4611686018427387904) (harm : D.tick.armed = .goes)
    (pf : FuncId) (caps : Array Value) (hpf : Callable pf caps) (ref : Err) (wt : Bool) (df : FuncId) (dcaps : Array Value) (hdf : Callable df dcaps) (pv : Value) (hpv : pv = .nilFunc ∨ ∃ qf qcaps, pv = .func (.func qf) #[] qcaps) (act : Disk → Disk)
    (hplan : ∀ W, Ext B b lab w W D.tick → Calls Tryz.prog pf caps W fun e W' => e = .returned (.agg #[errV eb ref, .func (.func df) #[] dcaps, .bool wt, pv]) ∧ Ext B b lab w W' D.tick)
    (hdo : ref = 0 → ∀ W D1, D1 = D.tick → Ext B b lab w W D1 → Calls Tryz.prog df dcaps W fun e W' => e = .returned (.tuple #[]) ∧ Ext B b lab w W' (act D1)) :
    Calls Tryz.prog 70 #[dptr b, .func (.func pf) #[] caps] w fun e W' => e = .returned (errV eb ref) ∧ Ext B b lab w W' (if ref = 0 then act D.tick else D.tick) := by
  have c8 : w.cell? ⟨b, 8, none⟩ = some (.bool false) := main_cell h.blk (by rw [← hoff]; rfl)
  have c4 : w.cell? ⟨b, 4, none⟩ = some (.int .i64 D.count) := main_cell h.blk rfl
  have c5 : w.cell? ⟨b, 5, none⟩ = some (.int .i64 D.since) := main_cell h.blk rfl
  have f4 : w.frozen? ⟨b, 4, none⟩ = false := frozen_of h.blk
  have f5 : w.frozen? ⟨b, 5, none⟩ = false := frozen_of h.blk
  obtain ⟨t1, t2⟩ := tick_ext h
  have T := Lib.hid (Ext.trans (w0 := w) t2 (fun k _ hk => hk) (Ext.refl t1))
  clear t1 t2
  have HP := Lib.hid hplan
  have HPF := hpf
  unfold Callable at hpf
  clear hplan
  have hft : ∀ k, Ft lab k → B ≤ k := fun k hk => by obtain ⟨p, hp⟩ := Option.isSome_iff_exists.1 hk; exact (h.base k p hp).1
  have HC := Lib.hid harm
  clear harm
  unfold Callable at hdf
  unfold dptr
  have HD := Lib.hid hdo
  clear hdo
  generalize hR : (if ref = 0 then act D.tick else D.tick) = R
  by_cases href : ref = 0
  · have HR2 : Hid (act D.tick = R) := by rw [← hR, if_pos href]; exact rfl
    have HR := Lib.hid href
    have hrv : errV eb ref = .nilIface := by rw [href]; rfl
    rw [hrv] at HP
    rw [hrv]
    clear hrv href hR
    rcases hpv with rfl | ⟨qf, qcaps, rfl⟩
    all_goals
      go_enter Tryz.func70, Tryz.ntmps70
      go_wp2_with fail
      refine (HP.out _ T.out).mono ?_
      rintro e w1 ⟨rfl, hx⟩
      clear T HP
      obtain ⟨A1, lab1, h1, hf1, hl1⟩ := hx
      have he1 := Lib.hid (he.frm hf1 hft)
      have H1 := Lib.hid h1
      go_wp2_with fail
      refine (armed_calls (H1.out.alloc _) (he1.out.alloc _)).mono ?_
      rw [HC.out]
      rintro e w2 ⟨rfl, hf2⟩
      unfold whatV
      try rw [errV_pos _ _ (by decide)]
      have he2 := Lib.hid (ErrsAt.frm (he1.out.alloc _) hf2 (fun _ h => h.elim))
      have H2 := Lib.hid (DiskAt.frame (H1.out.alloc _) hf2 (fun _ h => h.elim))
      have HX := Lib.hid (Ext.trans (w0 := w) (w2 := w2) (D2 := D.tick) (hf1.trans (((Frm.refl (fun _ => False) w1).alloc _).trans hf2 (fun _ _ h => h)) (fun _ _ h => h.elim)) hl1 (Ext.refl H2.out))
      have cd2 := he2.out.down
      have hop2 := Lib.hid ((hf2.block w1.heap.size (by simp) id).trans blk_alloc)
      have o0 := cell_of (i := 0) hop2.out rfl
      have o1 := cell_of (i := 1) hop2.out rfl
      have o2 := cell_of (i := 2) hop2.out rfl
      have ci2 := he2.out.io
      have o3 := cell_of (i := 3) hop2.out rfl
      obtain ⟨x6, t6, hx6⟩ := he2.out.blk 6 (he2.out.six 6 (by simp))
      obtain ⟨x7, t7, hx7⟩ := he2.out.blk 7 (he2.out.six 7 (by simp))
      have h67 : eb 6 ≠ eb 7 := fun e => absurd (he2.out.inj 6 7 (he2.out.six 6 (by simp)) (he2.out.six 7 (by simp)) e) (by decide)
      go_wp2_with (first | (go_at_call 127; refine (Ei.is_nil _ _).mono ?_; rintro e w' ⟨rfl, rfl⟩))
      refine (HD.out HR.out _ _ rfl HX.out).mono ?_
      rintro e w3 ⟨rfl, hx3⟩
      rw [HR2.out] at hx3
      go_wp2
      go_ret
      exact ⟨rfl, hx3⟩
  · have HR2 : Hid (D.tick = R) := by rw [← hR, if_neg href]; exact rfl
    have hrv : errV eb ref = .iface 311 (.pointer (some (eb ref))) := errV_pos _ _ href
    rw [hrv] at HP
    rw [hrv]
    clear hrv href hR
    rcases hpv with rfl | ⟨qf, qcaps, rfl⟩
    all_goals
      go_enter Tryz.func70, Tryz.ntmps70
      go_wp2_with fail
      refine (HP.out _ T.out).mono ?_
      rintro e w1 ⟨rfl, hx⟩
      clear T HP
      obtain ⟨A1, lab1, h1, hf1, hl1⟩ := hx
      have he1 := Lib.hid (he.frm hf1 hft)
      have H1 := Lib.hid h1
      go_wp2_with fail
      refine (armed_calls (H1.out.alloc _) (he1.out.alloc _)).mono ?_
      rw [HC.out]
      rintro e w2 ⟨rfl, hf2⟩
      unfold whatV
      try rw [errV_pos _ _ (by decide)]
      have he2 := Lib.hid (ErrsAt.frm (he1.out.alloc _) hf2 (fun _ h => h.elim))
      have H2 := Lib.hid (DiskAt.frame (H1.out.alloc _) hf2 (fun _ h => h.elim))
      have HX := Lib.hid (Ext.trans (w0 := w) (w2 := w2) (D2 := D.tick) (hf1.trans (((Frm.refl (fun _ => False) w1).alloc _).trans hf2 (fun _ _ h => h)) (fun _ _ h => h.elim)) hl1 (Ext.refl H2.out))
      have cd2 := he2.out.down
      have hop2 := Lib.hid ((hf2.block w1.heap.size (by simp) id).trans blk_alloc)
      have o0 := cell_of (i := 0) hop2.out rfl
      have o1 := cell_of (i := 1) hop2.out rfl
      have o2 := cell_of (i := 2) hop2.out rfl
      have ci2 := he2.out.io
      have o3 := cell_of (i := 3) hop2.out rfl
      obtain ⟨x6, t6, hx6⟩ := he2.out.blk 6 (he2.out.six 6 (by simp))
      obtain ⟨x7, t7, hx7⟩ := he2.out.blk 7 (he2.out.six 7 (by simp))
      have h67 : eb 6 ≠ eb 7 := fun e => absurd (he2.out.inj 6 7 (he2.out.six 6 (by simp)) (he2.out.six 7 (by simp)) e) (by decide)
      go_wp2_with (first | (go_at_call 127; refine (Ei.is_nil _ _).mono ?_; rintro e w' ⟨rfl, rfl⟩))
      go_ret
      rw [← HR2.out]
      exact ⟨rfl, HX.out⟩
end Go.Proofs.YtkmmlfphcfcbgaaGreatDoor.Dw
