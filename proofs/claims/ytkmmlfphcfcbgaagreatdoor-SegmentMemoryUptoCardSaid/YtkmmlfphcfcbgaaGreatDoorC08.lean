/- A part of the proof of segmentMemoryUpto_holds: Sf, Rd. No condition. -/
import Derived.Test.YtkmmlfphcfcbgaaGreatDoorC07

/- Walks: Pack. -/
namespace Go.Proofs.YtkmmlfphcfcbgaaGreatDoor.Sg
theorem fits_step : ∀ (rs : List Bytes) (u j : Nat), j ≤ fits rs u → (j < fits rs u ↔ ∃ h : j < rs.length, u + room (rs.take j) + 2 + rs[j].length ≤ 494)
  | [], u, j, h => by
    have : j = 0 := by unfold fits at h; omega
    subst this
    constructor
    · intro h; unfold fits at h; omega
    · rintro ⟨h, _⟩; simp at h
  | r :: rs, u, 0, h => by
    constructor
    · intro h1
      refine ⟨by simp, ?_⟩
      unfold fits at h1
      split at h1
      · simp [room_nil]; omega
      · omega
    · rintro ⟨_, h2⟩
      unfold fits
      simp [room_nil] at h2
      rw [if_pos (by omega)]
      omega
  | r :: rs, u, j + 1, h => by
    unfold fits at h ⊢
    split
    · rename_i h1
      rw [if_pos h1] at h
      have ih := fits_step rs (u + 2 + r.length) j (by omega)
      rw [List.take_succ_cons, room_cons]
      constructor
      · intro h2
        obtain ⟨h3, h4⟩ := ih.1 (by omega)
        exact ⟨by rw [List.length_cons]; omega, by simp only [List.getElem_cons_succ]; omega⟩
      · rintro ⟨h3, h4⟩
        have := ih.2 ⟨by rw [List.length_cons] at h3; omega, by simp only [List.getElem_cons_succ] at h4; omega⟩
        omega
    · rename_i h1
      rw [if_neg h1] at h
      omega
end Go.Proofs.YtkmmlfphcfcbgaaGreatDoor.Sg
namespace Go.Proofs.YtkmmlfphcfcbgaaGreatDoor.Dw
open Go.RowKit Go.ChangeMaps Go.Proofs.YtkmmlfphcfcbgaaGreatDoor.Mp Go.Proofs.YtkmmlfphcfcbgaaGreatDoor.Dm Go.Proofs.YtkmmlfphcfcbgaaGreatDoor.Da
open Go.Proofs.YtkmmlfphcfcbgaaGreatDoorW.PrintWords (Kd ReadsInt own_weaken)
set_option linter.unusedVariables false
set_option linter.unusedSimpArgs false
set_option linter.unusedSectionVars false
/-- What Pack answers, in memory. -/
def Packs (w : World) (eb : Nat → Addr) (first : Nat) (rs : List Sg.Bytes) (e : Ending) (w' : World) : Prop :=
  ∃ p cap, e = .returned (.tuple #[.slice p (Sg.packE first rs).2.length cap, errV eb (Sg.packE first rs).1]) ∧ w'.ownsRow w.heap.size 5 1 (.slice p (Sg.packE first rs).2.length cap) (Sg.packE first rs).2.length (u8s (Sg.packE first rs).2) ∧ Frm (fun _ => False) w w'
theorem RecsAt.take {w : World} {A : Option Addr} {rs : List Sg.Bytes} (h : RecsAt w A rs) (m : Nat) : RecsAt w A (rs.take m) := by
  intro j hj
  rw [List.length_take] at hj
  obtain ⟨a, p, c, h1, h2, h3, h4⟩ := h j (by omega)
  have e : (rs.take m)[j]'(by rw [List.length_take]; exact hj) = rs[j]'(by omega) := List.getElem_take
  rw [e]
  exact ⟨a, p, c, h1, h2, h3, h4⟩
theorem RecsAt.drop {w : World} {g o : Nat} {rs : List Sg.Bytes} (h : RecsAt w (some ⟨g, o, none⟩) rs) (m : Nat) : RecsAt w (some ⟨g, o + m, none⟩) (rs.drop m) := by
  intro j hj
  rw [List.length_drop] at hj
  obtain ⟨a, p, c, h1, h2, h3, h4⟩ := h (m + j) (by omega)
  cases h1
  have e : (rs.drop m)[j]'(by rw [List.length_drop]; exact hj) = rs[m + j]'(by omega) := List.getElem_drop
  rw [e]
  refine ⟨_, p, c, rfl, ?_, h3, h4⟩
  rw [addO] at h2 ⊢
  rw [Nat.add_assoc]; exact h2
def slLen : Value → Nat
  | .slice _ n _ => n
  | _ => 0
theorem RecsAt.nil (w : World) (A : Option Addr) : RecsAt w A [] := fun j hj => absurd hj (by simp)
set_option maxHeartbeats 2000000 in
set_option maxRecDepth 100000 in
theorem pack_calls {B : Nat} {w : World} {eb : Nat → Addr} {Le : List Err} (h : CrcAt B w) (he : ErrsAt B w eb Le) (h1 : 1 ∈ Le) (h4 : 4 ∈ Le) (first : Nat) (A : Option Addr) (c : Nat) (rs : List Sg.Bytes) (hx : RecsAt w A rs) (hc : rs.length ≤ c) (hf : first < 18446744073709551616) (hl : rs.length ≤ 68719476736) (hb : ∀ r, r ∈ rs → ∀ x, x ∈ r → 0 ≤ x ∧ x < 256) :
    Calls Tryz.prog 47 #[.int .u64 first, .slice A rs.length c] w (Packs w eb first rs) := by
  have c1 : w.cell? ⟨3, 0, none⟩ = some (.iface 311 (.pointer (some (eb 1)))) := he.var 1 h1
  have c4 : w.cell? ⟨10, 0, none⟩ = some (.iface 311 (.pointer (some (eb 4)))) := he.var 4 h4
  have HX := Lib.hid hx
  have HC := Lib.hid h
  have HB := Lib.hid hb
  obtain ⟨N, hN⟩ : ∃ N, N = rs.length := ⟨_, rfl⟩
  have HN := Lib.hid hN
  clear he h1 h4 hx h hb
  by_cases h0 : rs = []
  · have hP : Sg.packE first rs = (0, []) := by unfold Sg.packE; rw [if_pos h0]
    have hz : rs.length = 0 := by rw [h0]; rfl
    rw [hz]
    have HP := Lib.hid hP
    clear h0 hz hP hN hc hl
    go_enter Tryz.func47, Tryz.ntmps47
    go_wp2
    go_ret2
    refine ⟨none, 0, ?_, ?_, Frm.refl _ _⟩
    · rw [HP.out]; rfl
    · rw [HP.out]; exact World.ownsRow_nil w _ _ 1
  · have hN1 : 1 ≤ N := by have := List.length_pos_iff.2 h0; omega
    by_cases hnum : Sg.numbers first rs.length
    · have hn62 : first + N ≤ 4611686018427387905 := by have := hnum.2.2; omega
      have KN : Hid (Calls Tryz.prog 95 #[.int .u64 first, .int .i64 N] w fun e w' => e = .returned (.bool true) ∧ w' = w) := by
        have := numbers_calls w first rs.length hf (by omega) (by omega)
        rw [decide_eq_true hnum, ← hN] at this
        exact Lib.hid this
      have HNM := Lib.hid (And.intro h0 hnum)
      rw [← hN]
      have hNI : ¬ (N : Int) = 0 := by omega
      have hcN : N ≤ c := by omega
      have hlN : N ≤ 68719476736 := by omega
      clear h0 hN hc hl hnum
      go_enter Tryz.func47, Tryz.ntmps47
      go_wp2_with (first
        | (go_at_call 95; (with_reducible refine KN.out.mono ?_); rintro e w ⟨rfl, rfl⟩))
      go_loopw [24] (fun v wr => ∃ j : Nat, v = .int .i64 (j : Nat) ∧ j ≤ N ∧ (∀ i (hi : i < rs.length), i < j → rs[i].length ≤ 200) ∧ w = wr) (fun v _ => N - (intOf v).toNat)
      case atStart => exact ⟨0, rfl, Nat.zero_le _, fun i _ hi => absurd hi (Nat.not_lt_zero _), rfl⟩
      case round =>
        obtain ⟨j, rfl, hj, hal, rfl⟩ := hrel
        by_cases hlt : j < N
        · obtain ⟨a, p, cc, rfl, hca, hcc, hrd⟩ := HX.out j (by have := HN.out; omega)
          have HAL := Lib.hid hal
          obtain ⟨q, hq⟩ : ∃ q, q = (rs[j]'(by have := HN.out; omega)).length := ⟨_, rfl⟩
          have HQ := Lib.hid hq
          rw [← hq] at hca hcc
          clear hrd hal hq
          by_cases hql : 200 < q
          · have hqI : (200 : Int) < (q : Int) := by omega
            have hP : Sg.packE first rs = (4, []) := by
              unfold Sg.packE
              rw [if_neg HNM.out.1, if_neg (fun hn => hn HNM.out.2), if_pos]
              exact List.any_eq_true.2 ⟨_, List.getElem_mem (l := rs) (n := j) (by have := HN.out; omega), decide_eq_true (by rw [← HQ.out]; exact hql)⟩
            have HP := Lib.hid hP
            clear hP
            go_wp2
            go_quiet (fail)
            go_wp2
            go_ret2
            refine ⟨none, 0, ?_, ?_, (by repeat (first | (with_reducible assumption) | (with_reducible exact Frm.refl _ _) | (with_reducible apply Frm.drewN) | (with_reducible apply Frm.drew) | (with_reducible apply Frm.alloc) | (with_reducible refine Frm.setCell ?_ _ _ (fun h => absurd h (by first | (simp; done) | (simp; omega))))))⟩
            · rw [HP.out]; rfl
            · rw [HP.out]; exact World.ownsRow_nil _ _ _ 1
          · have hqI : ¬ (200 : Int) < (q : Int) := by omega
            have hal2 : Hid (∀ i (hi : i < rs.length), i < j + 1 → rs[i].length ≤ 200) := by
              refine Lib.hid fun i hi hij => ?_
              rcases Nat.lt_or_ge i j with h2 | h2
              · exact HAL.out i hi h2
              · obtain rfl : i = j := by omega
                rw [← HQ.out]; omega
            go_wp2
            exact ⟨⟨j + 1, by go_num, by omega, hal2.out, by trivial⟩, by simp [intOf]; omega⟩
        · obtain rfl : j = N := by omega
          have hall : ∀ r, r ∈ rs → r.length ≤ 200 := fun r hr => by
            obtain ⟨i, hi, rfl⟩ := List.getElem_of_mem hr
            exact hal i hi (by have := HN.out; omega)
          have hP : Sg.packE first rs = (0, Sg.pack Sg.crc rs.length first rs) := by
            unfold Sg.packE
            rw [if_neg HNM.out.1, if_neg (fun hn => hn HNM.out.2), if_neg]
            intro ha
            obtain ⟨r, hr, h2⟩ := List.any_eq_true.1 ha
            have := hall r hr
            have := of_decide_eq_true h2
            omega
          have HP := Lib.hid hP
          have HALL := Lib.hid hall
          clear hal hall hP hj hlt c1 c4
          go_wp2
          go_loopw [0, 1, 8] (fun x r v wr => ∃ (fst : Nat) (rr : List Sg.Bytes) (fuel : Nat) (d : List Int) (n D : Nat) (A' : Option Addr) (c' : Nat) (p : Option Addr) (cc : Nat), x = .int .u64 (fst : Nat) ∧ r = .slice A' n c' ∧ v = .slice p D cc ∧ rr.length = n ∧ d.length = D ∧ n ≤ c' ∧ n ≤ j ∧ D + 512 * n ≤ 512 * j ∧ RecsAt w A' rr ∧ (rr ≠ [] → Sg.numbers fst rr.length) ∧ (∀ b, b ∈ rr → b.length ≤ 200) ∧ (∀ b, b ∈ rr → ∀ x, x ∈ b → 0 ≤ x ∧ x < 256) ∧ n ≤ fuel ∧ Sg.pack Sg.crc rs.length first rs = d ++ Sg.pack Sg.crc fuel fst rr ∧ wr.ownsRow w.heap.size 5 1 v D (u8s d) ∧ Frm (fun _ => False) w wr ∧ fst + n ≤ 4611686018427387905) (fun _ r _ _ => slLen r)
          case atStart =>
            exact ⟨first, rs, rs.length, [], j, 0, A, c, none, 0, rfl, rfl, rfl, HN.out.symm, rfl, hcN, Nat.le_refl _, by omega, HX.out, fun _ => HNM.out.2, HALL.out, HB.out, by have := HN.out; omega, rfl, World.ownsRow_nil _ _ _ 1, Frm.refl _ _, hn62⟩
          case round =>
            obtain ⟨fst, rr, fuel, d, n, D, A', c', p, cc, rfl, rfl, rfl, hrl, hdl, hnc, hnj, hDn, hrx, hrn, hr2, hrb, hfu, hpk, hrow, hfr, hfst⟩ := hrel
            have HFR := Lib.hid hfr
            by_cases hz : n = 0
            · have hrr : rr = [] := List.eq_nil_of_length_eq_zero (by omega)
              have hd : Sg.pack Sg.crc rs.length first rs = d := by
                rw [hpk, hrr]
                cases fuel <;> simp [Sg.pack]
              have HD := Lib.hid hd
              have HROW := Lib.hid hrow
              have HDL := Lib.hid hdl
              clear hrx hrn hr2 hrb hpk hrl hdl hrow hfr hrr hd
              subst hz
              go_wp2
              go_ret2
              refine ⟨p, cc, ?_, ?_, HFR.out⟩
              · rw [HP.out, HD.out, HDL.out]; rfl
              · rw [HP.out, HD.out, HDL.out]; exact HROW.out
            · have hne : rr ≠ [] := fun e => hz (by rw [← hrl, e]; rfl)
              have hm1 := Sg.fits_pos hne hr2
              have hm2 := Sg.fits_le rr 0
              have hroom := Sg.fits_room rr 0 (by omega)
              have hstep := Lib.hid (Sg.fits_step rr 0)
              obtain ⟨a0, p0, c0, hA0, hcell0, hj1, hj2⟩ := hrx 0 (by omega)
              clear hj1 hj2
              have hsp := spot_none (w := w) (a := a0) (by rwa [show a0.add 0 = a0 by unfold Addr.add; simp] at hcell0)
              obtain ⟨g, o, pt⟩ := a0
              cases hsp
              subst hA0
              clear hcell0
              obtain ⟨m, hm⟩ : ∃ m, m = Sg.fits rr 0 := ⟨_, rfl⟩
              have HM := Lib.hid hm
              rw [← hm] at hm1 hm2 hroom
              rw [hrl] at hm2
              have HG := Lib.hid (And.intro hrx (And.intro hrn (And.intro hr2 (And.intro hrb (And.intro hfu (And.intro hpk (And.intro hrow (And.intro hrl (And.intro hdl hroom)))))))))
              have hzI : (0 : Int) < (n : Int) := by omega
              clear hrx hrn hr2 hrb hfu hpk hrow hrl hdl hroom hfr hne hm HP HALL HX
              go_wp2
              go_loopw [9, 10] (fun x y wx => ∃ i : Nat, x = .int .i64 (i : Nat) ∧ i ≤ m ∧ y = .int .i64 (Sg.room (rr.take i) : Nat) ∧ wr = wx) (fun x _ _ => m - (intOf x).toNat)
              case atStart => exact ⟨0, rfl, Nat.zero_le _, rfl, rfl⟩
              case round =>
                obtain ⟨i, rfl, hi, rfl, rfl⟩ := hrel
                have hst := hstep.out i (by rw [← HM.out]; exact hi)
                rw [← HM.out] at hst
                obtain ⟨R, hR⟩ : ∃ R, R = Sg.room (rr.take i) := ⟨_, rfl⟩
                have hR494 : R ≤ 494 := by
                  have h1 := room_take_le (rr.take m) i
                  rw [List.take_take, Nat.min_eq_left hi] at h1
                  have := HG.out.2.2.2.2.2.2.2.2.2
                  omega
                have hrl : rr.length = n := HG.out.2.2.2.2.2.2.2.1
                have hcl : ∀ hinr : i < rr.length, ∃ p2 c2, wr.cell? ⟨g, o + i, none⟩ = some (.slice p2 rr[i].length c2) := fun hinr => by
                  obtain ⟨a2, p2, c2, hA2, hca, _, _⟩ := (HG.out.1.frm HFR.out) i hinr
                  cases hA2
                  rw [addO] at hca
                  exact ⟨p2, c2, hca⟩
                have hst2 : ∀ hinr : i < rr.length, (i < m ↔ R + 2 + rr[i].length ≤ 494) := fun hinr => by rw [hst, hR]; exact ⟨fun ⟨_, h⟩ => by omega, fun h => ⟨hinr, by omega⟩⟩
                by_cases him : i < m
                · have hin : i < n := by omega
                  have hinr : i < rr.length := by omega
                  obtain ⟨p2, c2, hca⟩ := hcl hinr
                  have hnx : Hid (Sg.room (rr.take (i + 1)) = R + (2 + rr[i].length)) := by
                    refine Lib.hid ?_
                    rw [hR, List.take_add_one, List.getElem?_eq_getElem hinr, Option.toList_some, room_snoc]
                  have hle := (hst2 hinr).1 him
                  have hq2 := HG.out.2.2.1 _ (List.getElem_mem hinr)
                  have HR := Lib.hid hR
                  rw [← hR]
                  generalize rr[i].length = q at *
                  have hleI : (R : Int) + 2 + (q : Int) ≤ 494 := by omega
                  clear hst hst2 hR hcl hrl
                  go_wp2
                  exact ⟨⟨i + 1, by go_num, by omega, by rw [hnx.out]; simp, by trivial⟩, by simp [intOf]; omega⟩
                · obtain rfl : i = m := by omega
                  rw [← hR]
                  have hfull : Hid (Calls Tryz.prog 96 #[.int .u64 fst, .slice (some ⟨g, o, none⟩) i c'] wr fun e w' => ∃ g1 cap, e = .returned (.tuple #[.slice (some ⟨g1, 0, none⟩) 512 cap, .nilIface]) ∧ w'.ownsRow wr.heap.size 5 1 (.slice (some ⟨g1, 0, none⟩) 512 cap) 512 (u8s (Sg.blk Sg.crc fst (rr.take i))) ∧ Frm (fun _ => False) wr w') := by
                    have hne : rr ≠ [] := fun e => hz (by rw [← hrl, e]; rfl)
                    have hlt : (rr.take i).length = i := by rw [List.length_take]; omega
                    have K := encode_calls (HC.out.frm HFR.out (fun _ h => h.elim)) fst (some ⟨g, o, none⟩) c' (rr.take i) ((HG.out.1.frm HFR.out).take i) (Sg.numbers_take (HG.out.2.1 hne) hm1 (by omega)) (by omega) (fun r hr => HG.out.2.2.1 r (List.mem_of_mem_take hr)) (by have := HG.out.2.2.2.2.2.2.2.2.2; omega) (fun r hr => HG.out.2.2.2.1 r (List.mem_of_mem_take hr))
                    rw [hlt] at K
                    exact Lib.hid K
                  have hic : i ≤ c' := by omega
                  rcases (show i < n ∨ i = n by omega) with hin | hin
                  · have hinr : i < rr.length := by omega
                    obtain ⟨p2, c2, hca⟩ := hcl hinr
                    have hle : ¬ R + 2 + rr[i].length ≤ 494 := fun h => him ((hst2 hinr).2 h)
                    have hq2 := HG.out.2.2.1 _ (List.getElem_mem hinr)
                    generalize rr[i].length = q at *
                    have hleI : ¬ (R : Int) + 2 + (q : Int) ≤ 494 := by omega
                    clear hst hst2 hR hcl hrl
                    go_wp2_with (fail)
                    refine hfull.out.mono ?_
                    rintro e w2 ⟨g1, cap1, rfl, hr2, hf2⟩
                    have H2 := Lib.hid (And.intro hr2 hf2)
                    have hs2 := hf2.size
                    have hs1 := HFR.out.size
                    have hD1 : D + 512 ≤ 140737488355328 := by omega
                    have hinI2 : (i : Int) ≤ (n : Int) := by omega
                    have hicI : (i : Int) ≤ (c' : Int) := by omega
                    have hncI : (n : Int) ≤ (c' : Int) := by omega
                    have hblk : Hid ((Sg.blk Sg.crc fst (rr.take i)).length = 512) := Lib.hid (Sg.blk_length _ (by have := HG.out.2.2.2.2.2.2.2.2.2; omega))
                    have hnext : Hid (rr ≠ [] ∧ Sg.pack Sg.crc rs.length first rs = (d ++ Sg.blk Sg.crc fst (rr.take i)) ++ Sg.pack Sg.crc (fuel - 1) (fst + i) (rr.drop i)) := by
                      have hne : rr ≠ [] := fun e => hz (by rw [← HG.out.2.2.2.2.2.2.2.1, e]; rfl)
                      refine Lib.hid ⟨hne, ?_⟩
                      have hp := HG.out.2.2.2.2.2.1
                      obtain ⟨f', hf'⟩ : ∃ f', fuel = f' + 1 := ⟨fuel - 1, by have := HG.out.2.2.2.2.1; omega⟩
                      rw [hp, hf', Nat.add_sub_cancel]
                      conv => lhs; rw [Sg.pack, if_neg hne, ← HM.out]
                      rw [List.append_assoc]
                    have hdl : Hid (d.length = D) := Lib.hid HG.out.2.2.2.2.2.2.2.2.1
                    clear hr2 hf2
                    go_wp2_with (first
                      | (at_builtin; refine wpl_append_bytesN rfl _ _ rfl (N := D + 512) rfl (own_frm HG.out.2.2.2.2.2.2.1 H2.out.2) hdl.out rfl (fromReads (own_reads H2.out.1 hblk.out (by decide)) hblk.out) hblk.out rfl hD1 (Nat.le_trans hs1 hs2) ?_; intro p3 c3 w3 hr3 hg3; have H3 := Lib.hid (And.intro hr3 hg3); clear hr3 hg3))
                    go_quiet (fail)
                    go_wp2
                    have hrecs := HG.out.1.drop i
                    have hl3 : (rr.drop i).length = n - i := by rw [List.length_drop]; have := HG.out.2.2.2.2.2.2.2.1; omega
                    have hrow3 : w3.ownsRow w.heap.size 5 1 (.slice p3 (D + 512) c3) (D + 512) (u8s (d ++ Sg.blk Sg.crc fst (rr.take i))) := H3.out.1
                    have hfr3 : Frm (fun _ => False) w w3 := by
                      have hg3 : w2.grownBy w3 (Value.slice p D cc).ownBlock := H3.out.2
                      exact (HFR.out.trans H2.out.2 (fun _ _ h => h)).grown hg3 (fun k e hk => by have := (own_low HG.out.2.2.2.2.2.2.1 e).1; omega)
                    refine ⟨⟨fst + i, rr.drop i, fuel - 1, d ++ Sg.blk Sg.crc fst (rr.take i), n - i, D + 512, _, c' - i, p3, c3, by simp, rfl, rfl, hl3, by rw [List.length_append, hdl.out, hblk.out], by omega, by omega, by omega, hrecs, fun h => Sg.numbers_drop (HG.out.2.1 hnext.out.1) (by rw [HG.out.2.2.2.2.2.2.2.1]; rcases Nat.lt_or_ge i n with h2 | h2; exact h2; exact absurd (List.eq_nil_of_length_eq_zero (by omega)) h), fun b hb => HG.out.2.2.1 b (List.mem_of_mem_drop hb), fun b hb => HG.out.2.2.2.1 b (List.mem_of_mem_drop hb), by have := HG.out.2.2.2.2.1; omega, hnext.out.2, hrow3, hfr3.drewN _, by omega⟩, by simp [slLen]; omega⟩
                  · have hinI : ¬ (i : Int) < (n : Int) := by omega
                    have HIN := Lib.hid hin
                    clear hst hst2 hR hcl hrl hin
                    go_wp2_with (fail)
                    refine hfull.out.mono ?_
                    rintro e w2 ⟨g1, cap1, rfl, hr2, hf2⟩
                    have H2 := Lib.hid (And.intro hr2 hf2)
                    have hs2 := hf2.size
                    have hs1 := HFR.out.size
                    have hD1 : D + 512 ≤ 140737488355328 := by omega
                    have hinI2 : (i : Int) ≤ (n : Int) := by omega
                    have hicI : (i : Int) ≤ (c' : Int) := by omega
                    have hncI : (n : Int) ≤ (c' : Int) := by omega
                    have hblk : Hid ((Sg.blk Sg.crc fst (rr.take i)).length = 512) := Lib.hid (Sg.blk_length _ (by have := HG.out.2.2.2.2.2.2.2.2.2; omega))
                    have hnext : Hid (rr ≠ [] ∧ Sg.pack Sg.crc rs.length first rs = (d ++ Sg.blk Sg.crc fst (rr.take i)) ++ Sg.pack Sg.crc (fuel - 1) (fst + i) (rr.drop i)) := by
                      have hne : rr ≠ [] := fun e => hz (by rw [← HG.out.2.2.2.2.2.2.2.1, e]; rfl)
                      refine Lib.hid ⟨hne, ?_⟩
                      have hp := HG.out.2.2.2.2.2.1
                      obtain ⟨f', hf'⟩ : ∃ f', fuel = f' + 1 := ⟨fuel - 1, by have := HG.out.2.2.2.2.1; omega⟩
                      rw [hp, hf', Nat.add_sub_cancel]
                      conv => lhs; rw [Sg.pack, if_neg hne, ← HM.out]
                      rw [List.append_assoc]
                    have hdl : Hid (d.length = D) := Lib.hid HG.out.2.2.2.2.2.2.2.2.1
                    clear hr2 hf2
                    go_wp2_with (first
                      | (at_builtin; refine wpl_append_bytesN rfl _ _ rfl (N := D + 512) rfl (own_frm HG.out.2.2.2.2.2.2.1 H2.out.2) hdl.out rfl (fromReads (own_reads H2.out.1 hblk.out (by decide)) hblk.out) hblk.out rfl hD1 (Nat.le_trans hs1 hs2) ?_; intro p3 c3 w3 hr3 hg3; have H3 := Lib.hid (And.intro hr3 hg3); clear hr3 hg3))
                    obtain ⟨A3, hA3⟩ : ∃ A3 : Option Addr, (if c' = i then (some ⟨g, o, none⟩ : Option Addr) else some ⟨g, o + i, none⟩) = A3 := ⟨_, rfl⟩
                    have hrec3 : RecsAt w A3 (rr.drop i) := by
                      have : rr.drop i = [] := List.drop_eq_nil_of_le (by have := HG.out.2.2.2.2.2.2.2.1; have := HIN.out; omega)
                      rw [this]; exact RecsAt.nil _ _
                    have HREC := Lib.hid hrec3
                    clear hrec3
                    go_quiet (fail)
                    go_wp2
                    have hrecs := HREC.out
                    have hl3 : (rr.drop i).length = n - i := by rw [List.length_drop]; have := HG.out.2.2.2.2.2.2.2.1; omega
                    have hrow3 : w3.ownsRow w.heap.size 5 1 (.slice p3 (D + 512) c3) (D + 512) (u8s (d ++ Sg.blk Sg.crc fst (rr.take i))) := H3.out.1
                    have hfr3 : Frm (fun _ => False) w w3 := by
                      have hg3 : w2.grownBy w3 (Value.slice p D cc).ownBlock := H3.out.2
                      exact (HFR.out.trans H2.out.2 (fun _ _ h => h)).grown hg3 (fun k e hk => by have := (own_low HG.out.2.2.2.2.2.2.1 e).1; omega)
                    refine ⟨⟨fst + i, rr.drop i, fuel - 1, d ++ Sg.blk Sg.crc fst (rr.take i), n - i, D + 512, _, c' - i, p3, c3, by simp, rfl, rfl, hl3, by rw [List.length_append, hdl.out, hblk.out], by omega, by omega, by omega, hrecs, fun h => Sg.numbers_drop (HG.out.2.1 hnext.out.1) (by rw [HG.out.2.2.2.2.2.2.2.1]; rcases Nat.lt_or_ge i n with h2 | h2; exact h2; exact absurd (List.eq_nil_of_length_eq_zero (by omega)) h), fun b hb => HG.out.2.2.1 b (List.mem_of_mem_drop hb), fun b hb => HG.out.2.2.2.1 b (List.mem_of_mem_drop hb), by have := HG.out.2.2.2.2.1; omega, hnext.out.2, hrow3, hfr3.drewN _, by omega⟩, by simp [slLen]; omega⟩
    · have hP : Sg.packE first rs = (1, []) := by unfold Sg.packE; rw [if_neg h0, if_pos hnum]
      have KN : Hid (Calls Tryz.prog 95 #[.int .u64 first, .int .i64 N] w fun e w' => e = .returned (.bool false) ∧ w' = w) := by
        have := numbers_calls w first rs.length hf (by omega) (by omega)
        rw [decide_eq_false hnum, ← hN] at this
        exact Lib.hid this
      have HP := Lib.hid hP
      rw [← hN]
      have hNI : ¬ (N : Int) = 0 := by omega
      clear h0 hP hN hc hl hnum
      go_enter Tryz.func47, Tryz.ntmps47
      go_wp2_with (first
        | (go_at_call 95; (with_reducible refine KN.out.mono ?_); rintro e w ⟨rfl, rfl⟩))
      go_quiet (fail)
      go_wp2
      go_ret2
      refine ⟨none, 0, ?_, ?_, (by repeat (first | (with_reducible assumption) | (with_reducible exact Frm.refl _ _) | (with_reducible apply Frm.drewN) | (with_reducible apply Frm.drew) | (with_reducible apply Frm.alloc) | (with_reducible refine Frm.setCell ?_ _ _ (fun h => absurd h (by first | (simp; done) | (simp; omega))))))⟩
      · rw [HP.out]; rfl
      · rw [HP.out]; exact World.ownsRow_nil _ _ _ 1
end Go.Proofs.YtkmmlfphcfcbgaaGreatDoor.Dw

/- Walks: numbers and texts taken off the front of bytes. -/
namespace Go.Proofs.YtkmmlfphcfcbgaaGreatDoor.Dw
open Go.RowKit Go.ChangeMaps Go.Proofs.YtkmmlfphcfcbgaaGreatDoor.Mp Go.Proofs.YtkmmlfphcfcbgaaGreatDoor.Dm Go.Proofs.YtkmmlfphcfcbgaaGreatDoor.Da
open Go.Proofs.YtkmmlfphcfcbgaaGreatDoorW.PrintWords (Kd ReadsInt own_weaken string_of_reads)
set_option linter.unusedVariables false
set_option linter.unusedSimpArgs false
set_option linter.unusedSectionVars false
/-- Bytes in a slice of a block of bytes. -/
def RowB (w : World) (v : Value) (xs : List Int) : Prop :=
  ∃ (g o c : Nat) (cs : Array Value), v = .slice (some ⟨g, o, none⟩) xs.length c ∧ xs.length ≤ c ∧ c ≤ 9223372036854775807 ∧ w.heap[g]? = some (.cells cs 5 (0, 0)) ∧ ∀ j, j < xs.length → cs[o + j]? = some (.int .u8 (xs.getD j 0))
theorem RowB.frm {w w' : World} {v : Value} {xs : List Int} {F : Nat → Prop} (h : RowB w v xs) (hf : Frm F w w') (hF : ∀ k, k < w.heap.size → F k → ∀ cs, w.heap[k]? ≠ some (.cells cs 5 (0, 0))) : RowB w' v xs := by
  obtain ⟨g, o, c, cs, h1, h2, h3, h4, h5⟩ := h
  exact ⟨g, o, c, cs, h1, h2, h3, (hf.block g (Da.blk_lt h4) (fun hk => hF g (Da.blk_lt h4) hk cs h4)).trans h4, h5⟩
theorem RowB.reads {w : World} {g o c : Nat} {xs : List Int} (h : RowB w (.slice (some ⟨g, o, none⟩) xs.length c) xs) : ReadsInt w .u8 (some ⟨g, o, none⟩) xs.length xs := by
  obtain ⟨g', o', c', cs, h1, h2, h3, h4, h5⟩ := h
  simp only [Value.slice.injEq, Option.some.injEq, Addr.mk.injEq, true_and, and_true] at h1
  obtain ⟨⟨rfl, rfl⟩, rfl⟩ := h1
  exact reads_mk (by omega) fun i hi => cell_of h4 (h5 i hi)
theorem RowB.readsN {w : World} {g o c n : Nat} {xs : List Int} (h : RowB w (.slice (some ⟨g, o, none⟩) n c) xs) (hn : xs.length = n) : ReadsInt w .u8 (some ⟨g, o, none⟩) xs.length xs := by
  subst hn; exact h.reads
theorem RowB.take {w : World} {g o c : Nat} {xs : List Int} (h : RowB w (.slice (some ⟨g, o, none⟩) xs.length c) xs) (n : Nat) (hn : n ≤ xs.length) : RowB w (.slice (some ⟨g, o, none⟩) (xs.take n).length c) (xs.take n) := by
  obtain ⟨g', o', c', cs, h1, h2, h3, h4, h5⟩ := h
  simp only [Value.slice.injEq, Option.some.injEq, Addr.mk.injEq, true_and, and_true] at h1
  obtain ⟨⟨rfl, rfl⟩, rfl⟩ := h1
  refine ⟨g, o, c, cs, rfl, by rw [List.length_take]; omega, h3, h4, fun j hj => ?_⟩
  rw [List.length_take] at hj
  rw [h5 j (by omega), List.getD_eq_getElem?_getD, List.getD_eq_getElem?_getD, List.getElem?_take_of_lt (by omega)]
theorem RowB.drop {w : World} {g o c : Nat} {xs : List Int} (h : RowB w (.slice (some ⟨g, o, none⟩) xs.length c) xs) (n : Nat) (hn : n ≤ xs.length) : ∃ o', (if c = n then (some ⟨g, o, none⟩ : Option Addr) else some ⟨g, o + n, none⟩) = some ⟨g, o', none⟩ ∧ RowB w (.slice (some ⟨g, o', none⟩) (xs.drop n).length (c - n)) (xs.drop n) := by
  obtain ⟨g', o', c', cs, h1, h2, h3, h4, h5⟩ := h
  simp only [Value.slice.injEq, Option.some.injEq, Addr.mk.injEq, true_and, and_true] at h1
  obtain ⟨⟨rfl, rfl⟩, rfl⟩ := h1
  by_cases hc : c = n
  · refine ⟨o, if_pos hc, g, o, c - n, cs, rfl, by rw [List.length_drop]; omega, by omega, h4, fun j hj => ?_⟩
    rw [List.length_drop] at hj
    omega
  · refine ⟨o + n, if_neg hc, g, o + n, c - n, cs, rfl, by rw [List.length_drop]; omega, by omega, h4, fun j hj => ?_⟩
    rw [List.length_drop] at hj
    rw [Nat.add_assoc, h5 (n + j) (by omega), List.getD_eq_getElem?_getD, List.getD_eq_getElem?_getD, List.getElem?_drop]
/-- A reader: what is left, and its fault. -/
structure RdAt (w : World) (rb : Nat) (eb : Nat → Addr) (xs : List Int) (f : Err) : Prop where
  ex : ∃ v, w.heap[rb]? = some (.cells #[v, errV eb f] 204 (0, 0)) ∧ RowB w v xs
theorem RdAt.lt {w : World} {rb : Nat} {eb : Nat → Addr} {xs : List Int} {f : Err} (h : RdAt w rb eb xs f) : rb < w.heap.size := by
  obtain ⟨v, h1, _⟩ := h.ex
  exact Da.blk_lt h1
theorem RdAt.frm {w w' : World} {rb : Nat} {eb : Nat → Addr} {xs : List Int} {f : Err} (h : RdAt w rb eb xs f) (hf : Frm (fun _ => False) w w') : RdAt w' rb eb xs f := by
  obtain ⟨v, h1, h2⟩ := h.ex
  exact ⟨v, (hf.block _ (Da.blk_lt h1) id).trans h1, h2.frm hf (fun _ _ h => h.elim)⟩
/-- The reader's block is none of bytes. -/
theorem reader_ne {w : World} {rb : Nat} {x y : Value} (h : w.heap[rb]? = some (.cells #[x, y] 204 (0, 0))) : ∀ k, k < w.heap.size → k = rb → ∀ cs, w.heap[k]? ≠ some (.cells cs 5 (0, 0)) := by
  rintro k _ rfl cs e
  rw [h] at e
  have := Option.some.inj e
  simp only [Obj.cells.injEq] at this
  exact absurd this.2.1 (by decide)
set_option maxHeartbeats 1000000 in
set_option maxRecDepth 100000 in
theorem newReader_calls (w : World) (p : Option Addr) (n c : Nat) (xs : List Int) (eb : Nat → Addr) (hx : ReadsInt w .u8 p xs.length xs) (hn : xs.length = n) (h0 : 0 < n) (hl : n ≤ 70368744177664) :
    Calls Tryz.prog 81 #[.slice p n c] w fun e w' => ∃ rb, e = .returned (.pointer (some ⟨rb, 0, none⟩)) ∧ RdAt w' rb eb xs 0 ∧ Frm (fun _ => False) w w' ∧ w.heap.size ≤ rb := by
  have HX := Lib.hid hx
  have HN := Lib.hid hn
  clear hx hn
  go_enter Tryz.func81, Tryz.ntmps81
  go_wp2_with (first
    | (at_builtin; refine wpl_append_bytesN rfl _ _ rfl (base := w.heap.size) (n := 0) (N := n) (xs := []) rfl (World.ownsRow_nil _ _ _ 1) rfl rfl (fromReads HX.out HN.out) HN.out (Nat.zero_add n) (by omega) (Nat.le_refl _) ?_; intro p7 c7 w7 hr7 hg7; have H7 := Lib.hid (And.intro hr7 hg7); clear hr7 hg7))
  go_ret
  obtain ⟨hr, hg⟩ := H7.out
  have hg' : w.grownBy w7 none := hg
  have hf : Frm (fun _ => False) w w7 := (Frm.refl _ _).grown hg' (fun k e hk => by cases e)
  rw [List.nil_append] at hr
  obtain ⟨g, c1, hv, hc, hb, hlt⟩ := row_shape hr h0
  refine ⟨w7.heap.size, rfl, ⟨_, blk_alloc, ?_⟩, hf.alloc _, hf.size⟩
  rcases hr.2 with ⟨h1, h2⟩ | ⟨g', cap, cur, h1, h2, h3, h4, h5, h6, h7⟩
  · omega
  · have hmx : maxLen = 9223372036854775807 := by decide
    refine ⟨g', 0, cap, cur, ?_, by rw [HN.out]; exact h4, by omega, (blk_alloc_lt (Da.blk_lt h3)).trans h3, fun j hj => ?_⟩
    · rw [HN.out]; exact h1
    · have hj2 : j < n := by rw [← HN.out]; exact hj
      have e : (cur.toList.take (n * 1))[j]? = (u8s xs)[j]? := by rw [h7]
      rw [List.getElem?_take_of_lt (by omega), Array.getElem?_toList] at e
      rw [Nat.zero_add, e, u8s, List.getElem?_map, List.getElem?_eq_getElem hj, List.getD_eq_getElem?_getD, List.getElem?_eq_getElem hj]
      rfl
set_option maxHeartbeats 1000000 in
set_option maxRecDepth 100000 in
theorem take_ok {B : Nat} {w : World} {rb : Nat} {eb : Nat → Addr} {xs : List Int} (h : RdAt w rb eb xs 0) (n : Nat) (hn : n ≤ xs.length) :
    Calls Tryz.prog 167 #[.pointer (some ⟨rb, 0, none⟩), .int .i64 n] w fun e w' => ∃ g o c, e = .returned (.tuple #[.slice (some ⟨g, o, none⟩) n c, .bool true]) ∧ RowB w' (.slice (some ⟨g, o, none⟩) n c) (xs.take n) ∧ RdAt w' rb eb (xs.drop n) 0 ∧ Frm (fun k => k = rb) w w' := by
  obtain ⟨v, hb, hrow⟩ := h.ex
  obtain ⟨g, o, c, cs, rfl, h2, h3, h4, h5⟩ := id hrow
  rw [errV_zero] at hb
  have x0 := cell_of (i := 0) hb rfl
  have x1 := cell_of (i := 1) hb rfl
  have q0 := frozen_of (i := 0) hb
  have hll : (xs.take n).length = n := by rw [List.length_take]; omega
  obtain ⟨o', ho', hd⟩ := hrow.drop n hn
  have ht := hrow.take n hn
  obtain ⟨L, hL⟩ : ∃ L, L = xs.length := ⟨_, rfl⟩
  have H := Lib.hid (And.intro hb (And.intro ht (And.intro hd (And.intro hll hL))))
  rw [← hL] at x0 hn h2
  have hnI : ¬ (L : Int) < (n : Int) := by omega
  have hnI2 : (n : Int) ≤ (L : Int) := by omega
  have hnc : (n : Int) ≤ (c : Int) := by omega
  have hLc : (L : Int) ≤ (c : Int) := by omega
  clear hb ht hd hll hL hrow h4 h5 h
  go_enter Tryz.func167, Tryz.ntmps167
  go_wp2
  go_ret2
  obtain ⟨hb, ht, hd, hll, hL⟩ := H.out
  have hf : Frm (fun k => k = rb) w (w.setCell ⟨rb, 0, none⟩ (.slice (some ⟨g, o', none⟩) (L - n) (c - n))) := (Frm.refl _ _).setCell _ _ (fun _ => rfl)
  have hne := reader_ne hb
  refine ⟨g, o, c, rfl, ?_, ⟨_, (blk_set hb).trans rfl, ?_⟩, hf⟩
  · rw [hll] at ht
    exact ht.frm hf (fun k hk e => hne k hk e)
  · have hl2 : (xs.drop n).length = L - n := by rw [List.length_drop, hL]
    rw [hl2] at hd
    exact hd.frm hf (fun k hk e => hne k hk e)
set_option maxHeartbeats 1000000 in
set_option maxRecDepth 100000 in
theorem take_short {B : Nat} {w : World} {rb : Nat} {eb : Nat → Addr} {Le : List Err} {xs : List Int} (h : RdAt w rb eb xs 0) (he : ErrsAt B w eb Le) (h2 : 2 ∈ Le) (n : Nat) (hn : xs.length < n) (hn2 : n ≤ 9223372036854775807) :
    Calls Tryz.prog 167 #[.pointer (some ⟨rb, 0, none⟩), .int .i64 n] w fun e w' => e = .returned (.tuple #[.slice none 0 0, .bool false]) ∧ RdAt w' rb eb xs 2 ∧ Frm (fun k => k = rb) w w' := by
  obtain ⟨v, hb, hrow⟩ := h.ex
  obtain ⟨g, o, c, cs, rfl, h3, h4, h5, h6⟩ := id hrow
  rw [errV_zero] at hb
  have x0 := cell_of (i := 0) hb rfl
  have x1 := cell_of (i := 1) hb rfl
  have q1 := frozen_of (i := 1) hb
  have xs2 : w.cell? ⟨7, 0, none⟩ = some (.iface 311 (.pointer (some (eb 2)))) := he.var 2 h2
  obtain ⟨L, hL⟩ : ∃ L, L = xs.length := ⟨_, rfl⟩
  have H := Lib.hid (And.intro hb (And.intro hrow hL))
  rw [← hL] at x0 hn
  have hnI : (L : Int) < (n : Int) := by omega
  clear hb hrow hL h3 h4 h5 h6 h he h2
  go_enter Tryz.func167, Tryz.ntmps167
  go_wp2
  go_ret2
  obtain ⟨hb, hr, hL⟩ := H.out
  have hf : Frm (fun k => k = rb) w (w.setCell ⟨rb, 1, none⟩ (.iface 311 (.pointer (some (eb 2))))) := (Frm.refl _ _).setCell _ _ (fun _ => rfl)
  exact ⟨rfl, ⟨_, (blk_set hb).trans rfl, hr.frm hf (fun k hk e => reader_ne hb k hk e)⟩, hf⟩
set_option maxHeartbeats 1000000 in
set_option maxRecDepth 100000 in
theorem take_after {w : World} {rb : Nat} {eb : Nat → Addr} {xs : List Int} {f : Err} (h : RdAt w rb eb xs f) (hf : f ≠ 0) (n : Int) :
    Calls Tryz.prog 167 #[.pointer (some ⟨rb, 0, none⟩), .int .i64 n] w fun e w' => e = .returned (.tuple #[.slice none 0 0, .bool false]) ∧ w' = w := by
  obtain ⟨v, hb, hrow⟩ := h.ex
  rw [errV_pos eb f hf] at hb
  have x0 := cell_of (i := 0) hb rfl
  have x1 := cell_of (i := 1) hb rfl
  clear hb hrow h
  go_enter Tryz.func167, Tryz.ntmps167
  go_wp2
  go_ret2
  exact ⟨rfl, rfl⟩
theorem ofLe_lt : ∀ (b : List Int), (∀ x, x ∈ b → 0 ≤ x ∧ x < 256) → Sg.ofLe b < 256 ^ b.length
  | [], _ => by simp [Sg.ofLe]
  | c :: b, h => by
    have h1 := ofLe_lt b (fun x hx => h x (List.mem_cons_of_mem _ hx))
    have h2 := h c List.mem_cons_self
    rw [Sg.ofLe, List.length_cons, Nat.pow_succ]
    omega
set_option maxHeartbeats 1000000 in
set_option maxRecDepth 100000 in
theorem number_ok {w : World} {rb : Nat} {eb : Nat → Addr} {xs : List Int} (h : RdAt w rb eb xs 0) (n : Nat) (hn : n ≤ xs.length) (h8 : n ≤ 8) (hb : ∀ x, x ∈ xs → 0 ≤ x ∧ x < 256) :
    Calls Tryz.prog 129 #[.pointer (some ⟨rb, 0, none⟩), .int .i64 n] w fun e w' => e = .returned (.int .u64 (Sg.ofLe (xs.take n) : Nat)) ∧ RdAt w' rb eb (xs.drop n) 0 ∧ Frm (fun k => k = rb) w w' := by
  have K := Lib.hid (take_ok (B := 0) h n hn)
  obtain ⟨ys, hys⟩ : ∃ ys, ys = xs.take n := ⟨_, rfl⟩
  have hyl : ys.length = n := by rw [hys, List.length_take]; omega
  have hyb : ∀ x, x ∈ ys → 0 ≤ x ∧ x < 256 := fun x hx => hb x (by rw [hys] at hx; exact List.mem_of_mem_take hx)
  rw [← hys] at K ⊢
  have HY := Lib.hid (And.intro hyl hyb)
  clear h hb hys hyl hyb
  go_enter Tryz.func129, Tryz.ntmps129
  go_wp2_with (first
    | (go_at_call 167; (with_reducible refine K.out.mono ?_); rintro e w1 ⟨g, o, c, rfl, hr, hrd, hf⟩; have H1 := Lib.hid (And.intro hr (And.intro hrd hf)); clear hr hrd hf))
  go_loopw [7, 8] (fun x v wr => ∃ k : Nat, v = .int .i64 ((k : Int) - 1) ∧ x = .int .u64 (Sg.ofLe (ys.drop k) : Nat) ∧ k ≤ n ∧ w1 = wr) (fun _ v _ => (intOf v + 1).toNat)
  case atStart =>
    refine ⟨n, ?_, ?_, Nat.le_refl _, rfl⟩
    · rfl
    · rw [List.drop_of_length_le (by rw [HY.out.1]; exact Nat.le_refl _)]; rfl
  case round =>
    obtain ⟨k, rfl, rfl, hk, rfl⟩ := hrel
    by_cases h0 : k = 0
    · subst h0
      go_wp2
      go_ret
      exact ⟨by rw [List.drop_zero]; rfl, H1.out.2⟩
    · obtain ⟨j, rfl⟩ : ∃ j, k = j + 1 := ⟨k - 1, by omega⟩
      have hjl : j < ys.length := by have := HY.out.1; omega
      obtain ⟨a, ha, hc⟩ := (H1.out.1.readsN HY.out.1).2.2 (by omega)
      cases ha
      have hcj := hc j hjl
      rw [addO] at hcj
      obtain ⟨b, hb, hbl⟩ : ∃ b : Nat, ys[j] = (b : Int) ∧ b < 256 := by
        have := HY.out.2 ys[j] (List.getElem_mem hjl)
        exact ⟨ys[j].toNat, by omega, by omega⟩
      have hgd : ys.getD j 0 = (b : Int) := by rw [List.getD_eq_getElem?_getD, List.getElem?_eq_getElem hjl, ← hb]; rfl
      rw [hgd] at hcj
      have hX : Sg.ofLe (ys.drop (j + 1)) < 72057594037927936 := by
        have h1 := ofLe_lt (ys.drop (j + 1)) (fun x hx => HY.out.2 x (List.mem_of_mem_drop hx))
        have h2 : (ys.drop (j + 1)).length ≤ 7 := by rw [List.length_drop]; have := HY.out.1; omega
        exact Nat.lt_of_lt_of_le h1 (Nat.le_trans (Nat.pow_le_pow_right (by decide) h2) (by decide))
      have hnx : Hid (Sg.ofLe (ys.drop j) = b + 256 * Sg.ofLe (ys.drop (j + 1))) := by
        refine Lib.hid ?_
        rw [List.drop_eq_getElem_cons hjl, Sg.ofLe, hb]; rfl
      generalize Sg.ofLe (ys.drop (j + 1)) = X at *
      have hor : bits .or .u64 ((X : Int) * 256) (b : Int) = ((b + 256 * X : Nat) : Int) := by
        have e1 : (X : Int) * 256 = ((X * 256 : Nat) : Int) := by omega
        rw [e1, u64_or_nat _ _ (by omega) (by omega), nat_join 8 (X * 256) b (by omega) (by omega)]
        omega
      obtain ⟨Y, hY⟩ : ∃ Y, Y = b + 256 * X := ⟨_, rfl⟩
      rw [← hY] at hor hnx
      have HYY := Lib.hid hY
      have hjn : j < n := by omega
      clear hc hb hgd hY h0
      go_wp2
      exact ⟨⟨j, rfl, by rw [hnx.out], by omega, trivial⟩, by simp [intOf]⟩
set_option maxHeartbeats 1000000 in
set_option maxRecDepth 100000 in
theorem number_short {B : Nat} {w : World} {rb : Nat} {eb : Nat → Addr} {Le : List Err} {xs : List Int} (h : RdAt w rb eb xs 0) (he : ErrsAt B w eb Le) (h2 : 2 ∈ Le) (n : Nat) (hn : xs.length < n) (hn2 : n ≤ 9223372036854775807) :
    Calls Tryz.prog 129 #[.pointer (some ⟨rb, 0, none⟩), .int .i64 n] w fun e w' => e = .returned (.int .u64 0) ∧ RdAt w' rb eb xs 2 ∧ Frm (fun k => k = rb) w w' := by
  have K := Lib.hid (take_short h he h2 n hn hn2)
  clear h he h2
  go_enter Tryz.func129, Tryz.ntmps129
  go_wp2_with (first
    | (go_at_call 167; (with_reducible refine K.out.mono ?_); rintro e w1 ⟨rfl, hrd, hf⟩; have H1 := Lib.hid (And.intro hrd hf); clear hrd hf))
  refine wp_loop_rounds 1 ?_
  rw [rounds_succ]
  go_wp2
  go_ret
  exact ⟨rfl, H1.out⟩
set_option maxHeartbeats 1000000 in
set_option maxRecDepth 100000 in
theorem text_ok {w : World} {rb : Nat} {eb : Nat → Addr} {xs : List Int} (h : RdAt w rb eb xs 0) (h2 : 2 ≤ xs.length) (hq : Sg.ofLe (xs.take 2) ≤ (xs.drop 2).length) (hb : ∀ x, x ∈ xs → 0 ≤ x ∧ x < 256) :
    Calls Tryz.prog 181 #[.pointer (some ⟨rb, 0, none⟩)] w fun e w' => e = .returned (.string (strOfNums ((xs.drop 2).take (Sg.ofLe (xs.take 2))))) ∧ RdAt w' rb eb ((xs.drop 2).drop (Sg.ofLe (xs.take 2))) 0 ∧ Frm (fun k => k = rb) w w' := by
  have hql : Sg.ofLe (xs.take 2) < 65536 := by
    have h1 := ofLe_lt (xs.take 2) (fun x hx => hb x (List.mem_of_mem_take hx))
    have h3 : (xs.take 2).length ≤ 2 := by rw [List.length_take]; omega
    exact Nat.lt_of_lt_of_le h1 (Nat.le_trans (Nat.pow_le_pow_right (by decide) h3) (by decide))
  have K1 : Hid (Calls Tryz.prog 129 #[.pointer (some ⟨rb, 0, none⟩), .int .i64 2] w fun e w' => e = .returned (.int .u64 (Sg.ofLe (xs.take 2) : Nat)) ∧ RdAt w' rb eb (xs.drop 2) 0 ∧ Frm (fun k => k = rb) w w') := Lib.hid (number_ok h 2 h2 (by decide) hb)
  obtain ⟨v, hblk, hrow⟩ := h.ex
  have x0 := cell_of (i := 0) hblk rfl
  generalize Sg.ofLe (xs.take 2) = q at *
  have HQ := Lib.hid hq
  clear hblk hrow h hb h2 hq
  go_enter Tryz.func181, Tryz.ntmps181
  go_wp2_with (first
    | (go_at_call 129; (with_reducible refine K1.out.mono ?_); rintro e w1 ⟨rfl, hrd, hf⟩; have K2 := Lib.hid (take_ok (B := 0) hrd q HQ.out); have H1 := Lib.hid hf; clear hrd hf)
    | (go_at_call 167; (with_reducible refine K2.out.mono ?_); rintro e w2 ⟨g, o, c, rfl, hr, hrd, hf⟩; have hlq : ((xs.drop 2).take q).length = q := (by rw [List.length_take]; have := HQ.out; omega); have cv := string_of_reads (P := Tryz.prog) (w := w2) (c := c) Tryz.underlying36 Tryz.underlying5 Tryz.underlying9 (hr.readsN hlq); rw [hlq] at cv; have H2 := Lib.hid (And.intro hrd (H1.out.trans hf (fun _ _ h => h))); clear hr hrd hf hlq))
  go_ret
  exact ⟨rfl, H2.out⟩
theorem nil_str (W : World) : (convert 36 9 (.slice none 0 0)).run Tryz.prog W = .ok (.string ⟨#[]⟩) W :=
  string_of_reads (P := Tryz.prog) (w := W) (xs := []) Tryz.underlying36 Tryz.underlying5 Tryz.underlying9 ⟨rfl, by decide, fun h => absurd h (by decide)⟩
theorem RdAt.cell0 {w : World} {rb : Nat} {eb : Nat → Addr} {xs : List Int} {f : Err} (h : RdAt w rb eb xs f) : ∃ u, w.cell? ⟨rb, 0, none⟩ = some u ∧ w.frozen? ⟨rb, 0, none⟩ = false := by
  obtain ⟨v, h1, _⟩ := h.ex
  exact ⟨v, cell_of h1 rfl, frozen_of h1⟩
set_option maxHeartbeats 1000000 in
set_option maxRecDepth 100000 in
theorem text_none {B : Nat} {w : World} {rb : Nat} {eb : Nat → Addr} {Le : List Err} {xs : List Int} (h : RdAt w rb eb xs 0) (he : ErrsAt B w eb Le) (hB : B ≤ rb) (h2 : 2 ∈ Le) (hx : xs.length < 2) :
    Calls Tryz.prog 181 #[.pointer (some ⟨rb, 0, none⟩)] w fun e w' => e = .returned (.string ⟨#[]⟩) ∧ RdAt w' rb eb xs 2 ∧ Frm (fun k => k = rb) w w' := by
  have K1 : Hid (Calls Tryz.prog 129 #[.pointer (some ⟨rb, 0, none⟩), .int .i64 2] w fun e w' => e = .returned (.int .u64 0) ∧ RdAt w' rb eb xs 2 ∧ Frm (fun k => k = rb) w w') := Lib.hid (number_short h he h2 2 hx (by decide))
  obtain ⟨v, hblk, hrow⟩ := h.ex
  obtain ⟨gv, ov, cv, csv, rfl, hv1, hv2, hv3, hv4⟩ := id hrow
  clear hv1 hv2 hv3 hv4
  have x0 := cell_of (i := 0) hblk rfl
  have HR := Lib.hid (And.intro hblk hrow)
  clear hblk hrow h he hx
  have hns := nil_str
  go_enter Tryz.func181, Tryz.ntmps181
  go_wp2_with (first
    | (go_at_call 129; (with_reducible refine K1.out.mono ?_); rintro e w1 ⟨rfl, hrd, hf⟩; have K2 := Lib.hid (take_after hrd (by decide) 0); obtain ⟨u1, z1, q1⟩ := hrd.cell0; have H1 := Lib.hid (And.intro hrd hf); clear hrd hf)
    | (go_at_call 167; (with_reducible refine K2.out.mono ?_); rintro e w1 ⟨rfl, rfl⟩))
  go_ret
  obtain ⟨hrd, hf⟩ := H1.out
  obtain ⟨v1, hb1, hr1⟩ := hrd.ex
  obtain ⟨hb, hr⟩ := HR.out
  have hf2 : Frm (fun k => k = rb) w1 (w1.setCell ⟨rb, 0, none⟩ (.slice (some ⟨gv, ov, none⟩) xs.length cv)) := (Frm.refl _ _).setCell _ _ (fun _ => rfl)
  exact ⟨rfl, ⟨_, (blk_set hb1).trans rfl, (hr.frm hf (fun k hk e => reader_ne hb k hk e)).frm hf2 (fun k hk e => reader_ne hb1 k hk e)⟩, hf.trans hf2 (fun _ _ h => h)⟩
set_option maxHeartbeats 1000000 in
set_option maxRecDepth 100000 in
theorem text_short {B : Nat} {w : World} {rb : Nat} {eb : Nat → Addr} {Le : List Err} {xs : List Int} (h : RdAt w rb eb xs 0) (he : ErrsAt B w eb Le) (hB : B ≤ rb) (h2 : 2 ∈ Le) (h2x : 2 ≤ xs.length) (hq : (xs.drop 2).length < Sg.ofLe (xs.take 2)) (hb : ∀ x, x ∈ xs → 0 ≤ x ∧ x < 256) :
    Calls Tryz.prog 181 #[.pointer (some ⟨rb, 0, none⟩)] w fun e w' => e = .returned (.string ⟨#[]⟩) ∧ RdAt w' rb eb xs 2 ∧ Frm (fun k => k = rb) w w' := by
  have hql : Sg.ofLe (xs.take 2) < 65536 := by
    have h1 := ofLe_lt (xs.take 2) (fun x hx => hb x (List.mem_of_mem_take hx))
    have h3 : (xs.take 2).length ≤ 2 := by rw [List.length_take]; omega
    exact Nat.lt_of_lt_of_le h1 (Nat.le_trans (Nat.pow_le_pow_right (by decide) h3) (by decide))
  have K1 : Hid (Calls Tryz.prog 129 #[.pointer (some ⟨rb, 0, none⟩), .int .i64 2] w fun e w' => e = .returned (.int .u64 (Sg.ofLe (xs.take 2) : Nat)) ∧ RdAt w' rb eb (xs.drop 2) 0 ∧ Frm (fun k => k = rb) w w') := Lib.hid (number_ok h 2 h2x (by decide) hb)
  obtain ⟨v, hblk, hrow⟩ := h.ex
  obtain ⟨gv, ov, cv, csv, rfl, hv1, hv2, hv3, hv4⟩ := id hrow
  clear hv1 hv2 hv3 hv4
  have x0 := cell_of (i := 0) hblk rfl
  have HR := Lib.hid (And.intro hblk hrow)
  have HE := Lib.hid he
  generalize Sg.ofLe (xs.take 2) = q at *
  have HQ := Lib.hid hq
  clear hblk hrow h hb h2x hq he
  have hns := nil_str
  go_enter Tryz.func181, Tryz.ntmps181
  go_wp2_with (first
    | (go_at_call 129; (with_reducible refine K1.out.mono ?_); rintro e w1 ⟨rfl, hrd, hf⟩; have K2 := Lib.hid (take_short hrd (HE.out.frm hf (fun k e => by omega)) h2 q HQ.out (by omega)); have H1 := Lib.hid (And.intro hrd hf); clear hrd hf)
    | (go_at_call 167; (with_reducible refine K2.out.mono ?_); rintro e w2 ⟨rfl, hrd, hf⟩; obtain ⟨u1, z1, q1⟩ := hrd.cell0; have H2 := Lib.hid (And.intro hrd (H1.out.2.trans hf (fun _ _ h => h))); clear hrd hf))
  go_ret
  obtain ⟨hrd, hf⟩ := H2.out
  obtain ⟨v1, hb1, hr1⟩ := hrd.ex
  obtain ⟨hb, hr⟩ := HR.out
  have hf2 : Frm (fun k => k = rb) w2 (w2.setCell ⟨rb, 0, none⟩ (.slice (some ⟨gv, ov, none⟩) xs.length cv)) := (Frm.refl _ _).setCell _ _ (fun _ => rfl)
  exact ⟨rfl, ⟨_, (blk_set hb1).trans rfl, (hr.frm hf (fun k hk e => reader_ne hb k hk e)).frm hf2 (fun k hk e => reader_ne hb1 k hk e)⟩, hf.trans hf2 (fun _ _ h => h)⟩
/-! The reader's own calls. -/
set_option maxRecDepth 100000 in
theorem rU64 {w : World} {rb : Nat} {eb : Nat → Addr} {xs : List Int} (h : RdAt w rb eb xs 0) (hn : 8 ≤ xs.length) (hb : ∀ x, x ∈ xs → 0 ≤ x ∧ x < 256) :
    Calls Tryz.prog 131 #[.pointer (some ⟨rb, 0, none⟩)] w fun e w' => e = .returned (.int .u64 (Sg.ofLe (xs.take 8) : Nat)) ∧ RdAt w' rb eb (xs.drop 8) 0 ∧ Frm (fun k => k = rb) w w' := by
  have K : Hid (Calls Tryz.prog 129 #[.pointer (some ⟨rb, 0, none⟩), .int .i64 8] w fun e w' => e = .returned (.int .u64 (Sg.ofLe (xs.take 8) : Nat)) ∧ RdAt w' rb eb (xs.drop 8) 0 ∧ Frm (fun k => k = rb) w w') := Lib.hid (number_ok h 8 hn (by decide) hb)
  generalize Sg.ofLe (xs.take 8) = q at *
  obtain ⟨v, hblk, _⟩ := h.ex
  have x0 := cell_of (i := 0) hblk rfl
  clear h hn hb hblk
  go_enter Tryz.func131, Tryz.ntmps131
  go_wp2_with (first
    | (go_at_call 129; (with_reducible refine K.out.mono ?_); rintro e w1 ⟨rfl, hrd⟩))
  go_ret
  exact ⟨rfl, hrd⟩
theorem ofLe_small {xs : List Int} {n : Nat} (hb : ∀ x, x ∈ xs → 0 ≤ x ∧ x < 256) : Sg.ofLe (xs.take n) < 256 ^ n :=
  Nat.lt_of_lt_of_le (ofLe_lt (xs.take n) (fun x hx => hb x (List.mem_of_mem_take hx))) (Nat.pow_le_pow_right (by decide) (by rw [List.length_take]; omega))
set_option maxRecDepth 100000 in
theorem rU16 {w : World} {rb : Nat} {eb : Nat → Addr} {xs : List Int} (h : RdAt w rb eb xs 0) (hn : 2 ≤ xs.length) (hb : ∀ x, x ∈ xs → 0 ≤ x ∧ x < 256) :
    Calls Tryz.prog 143 #[.pointer (some ⟨rb, 0, none⟩)] w fun e w' => e = .returned (.int .u16 (Sg.ofLe (xs.take 2) : Nat)) ∧ RdAt w' rb eb (xs.drop 2) 0 ∧ Frm (fun k => k = rb) w w' := by
  have K : Hid (Calls Tryz.prog 129 #[.pointer (some ⟨rb, 0, none⟩), .int .i64 2] w fun e w' => e = .returned (.int .u64 (Sg.ofLe (xs.take 2) : Nat)) ∧ RdAt w' rb eb (xs.drop 2) 0 ∧ Frm (fun k => k = rb) w w') := Lib.hid (number_ok h 2 hn (by decide) hb)
  have hq : Sg.ofLe (xs.take 2) < 65536 := ofLe_small (n := 2) hb
  generalize Sg.ofLe (xs.take 2) = q at *
  obtain ⟨v, hblk, _⟩ := h.ex
  have x0 := cell_of (i := 0) hblk rfl
  clear h hn hb hblk
  go_enter Tryz.func143, Tryz.ntmps143
  go_wp2_with (first
    | (go_at_call 129; (with_reducible refine K.out.mono ?_); rintro e w1 ⟨rfl, hrd⟩))
  go_ret
  exact ⟨rfl, hrd⟩
set_option maxRecDepth 100000 in
theorem rU32 {w : World} {rb : Nat} {eb : Nat → Addr} {xs : List Int} (h : RdAt w rb eb xs 0) (hn : 4 ≤ xs.length) (hb : ∀ x, x ∈ xs → 0 ≤ x ∧ x < 256) :
    Calls Tryz.prog 82 #[.pointer (some ⟨rb, 0, none⟩)] w fun e w' => e = .returned (.int .u32 (Sg.ofLe (xs.take 4) : Nat)) ∧ RdAt w' rb eb (xs.drop 4) 0 ∧ Frm (fun k => k = rb) w w' := by
  have K : Hid (Calls Tryz.prog 129 #[.pointer (some ⟨rb, 0, none⟩), .int .i64 4] w fun e w' => e = .returned (.int .u64 (Sg.ofLe (xs.take 4) : Nat)) ∧ RdAt w' rb eb (xs.drop 4) 0 ∧ Frm (fun k => k = rb) w w') := Lib.hid (number_ok h 4 hn (by decide) hb)
  have hq : Sg.ofLe (xs.take 4) < 4294967296 := ofLe_small (n := 4) hb
  generalize Sg.ofLe (xs.take 4) = q at *
  obtain ⟨v, hblk, _⟩ := h.ex
  have x0 := cell_of (i := 0) hblk rfl
  clear h hn hb hblk
  go_enter Tryz.func82, Tryz.ntmps82
  go_wp2_with (first
    | (go_at_call 129; (with_reducible refine K.out.mono ?_); rintro e w1 ⟨rfl, hrd⟩))
  go_ret
  exact ⟨rfl, hrd⟩
/-- What Text takes. -/
def rdText (xs : List Int) : Option (List Int × List Int) :=
  if xs.length < 2 then none else if (xs.drop 2).length < Sg.ofLe (xs.take 2) then none else some ((xs.drop 2).take (Sg.ofLe (xs.take 2)), (xs.drop 2).drop (Sg.ofLe (xs.take 2)))
def textStr : Option (List Int × List Int) → ByteArray
  | some p => strOfNums p.1
  | none => ⟨#[]⟩
def TextLeft (w : World) (rb : Nat) (eb : Nat → Addr) (xs : List Int) : Option (List Int × List Int) → Prop
  | some p => RdAt w rb eb p.2 0
  | none => RdAt w rb eb xs 2
set_option maxRecDepth 100000 in
theorem rText {B : Nat} {w : World} {rb : Nat} {eb : Nat → Addr} {Le : List Err} {xs : List Int} (h : RdAt w rb eb xs 0) (he : ErrsAt B w eb Le) (hB : B ≤ rb) (h2 : 2 ∈ Le) (hb : ∀ x, x ∈ xs → 0 ≤ x ∧ x < 256) :
    Calls Tryz.prog 144 #[.pointer (some ⟨rb, 0, none⟩)] w fun e w' => e = .returned (.string (textStr (rdText xs))) ∧ TextLeft w' rb eb xs (rdText xs) ∧ Frm (fun k => k = rb) w w' := by
  have K : Hid (Calls Tryz.prog 181 #[.pointer (some ⟨rb, 0, none⟩)] w fun e w' => e = .returned (.string (textStr (rdText xs))) ∧ TextLeft w' rb eb xs (rdText xs) ∧ Frm (fun k => k = rb) w w') := by
    refine Lib.hid ?_
    unfold rdText
    by_cases h1 : xs.length < 2
    · rw [if_pos h1]; exact text_none h he hB h2 h1
    · rw [if_neg h1]
      by_cases h3 : (xs.drop 2).length < Sg.ofLe (xs.take 2)
      · rw [if_pos h3]; exact text_short h he hB h2 (by omega) h3 hb
      · rw [if_neg h3]; exact text_ok h (by omega) (by omega) hb
  generalize textStr (rdText xs) = s at *
  obtain ⟨v, hblk, _⟩ := h.ex
  have x0 := cell_of (i := 0) hblk rfl
  clear h hb hblk he h2
  go_enter Tryz.func144, Tryz.ntmps144
  go_wp2_with (first
    | (go_at_call 181; (with_reducible refine K.out.mono ?_); rintro e w1 ⟨rfl, hrd⟩))
  go_ret
  exact ⟨rfl, hrd⟩
set_option maxRecDepth 100000 in
theorem rErr {w : World} {rb : Nat} {eb : Nat → Addr} {xs : List Int} {f : Err} (h : RdAt w rb eb xs f) :
    Calls Tryz.prog 133 #[.pointer (some ⟨rb, 0, none⟩)] w fun e w' => e = .returned (errV eb f) ∧ w' = w := by
  obtain ⟨v, hblk, _⟩ := h.ex
  have x1 := cell_of (i := 1) hblk rfl
  clear h hblk
  generalize errV eb f = u at *
  go_enter Tryz.func133, Tryz.ntmps133
  go_wp2
  go_ret
  exact ⟨rfl, rfl⟩
set_option maxRecDepth 100000 in
theorem rLeft {w : World} {rb : Nat} {eb : Nat → Addr} {xs : List Int} {f : Err} (h : RdAt w rb eb xs f) :
    Calls Tryz.prog 145 #[.pointer (some ⟨rb, 0, none⟩)] w fun e w' => e = .returned (.int .i64 xs.length) ∧ w' = w := by
  obtain ⟨v, hblk, g, o, c, cs, rfl, _⟩ := h.ex
  have x0 := cell_of (i := 0) hblk rfl
  clear h hblk
  generalize xs.length = n at *
  go_enter Tryz.func145, Tryz.ntmps145
  go_wp2
  go_ret
  exact ⟨rfl, rfl⟩
end Go.Proofs.YtkmmlfphcfcbgaaGreatDoor.Dw
