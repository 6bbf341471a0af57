/- A part of the proof of diskDown_holds: Dv, Dx2. No condition. -/
import Derived.StillTailTactics
import Derived.Test.YtglhedahannjiaaGreatDoorC20

/- Walks: cutTo. -/
namespace Go.Proofs.YtglhedahannjiaaGreatDoor.Dw
open Go.RowKit Go.ChangeMaps Go.Proofs.YtglhedahannjiaaGreatDoor.Mp Go.Proofs.YtglhedahannjiaaGreatDoor.Dm Go.Proofs.YtglhedahannjiaaGreatDoor.Da
set_option linter.unusedVariables false
set_option linter.unusedSimpArgs false
set_option linter.unusedSectionVars false
/-- In cutTo's loop. -/
structure CutInv (w wr : World) (m it : Nat) (n : Int) (ks ks' tk : List Int) : Prop where
  frm : Frm (fun x => x = m) w wr
  iter : IterAt (Value.int .i64) wr it m (ent ks') (ent tk)
  nd : ks'.Nodup
  ndt : tk.Nodup
  mem : ∀ k, k ∈ ks' ↔ k ∈ ks ∧ (k ∈ tk ∨ k * 512 < n)
  sub : ∀ k, k ∈ tk → k ∈ ks
theorem CutInv.kept {w wr wr' : World} {m it : Nat} {n : Int} {ks ks' tk tk' : List Int} {y : Int} (h : CutInv w wr m it n ks ks' tk) (hp : tk.Perm (y :: tk')) (hlt : y * 512 < n) (hf : Frm (fun x => x = m) w wr') (hi : IterAt (Value.int .i64) wr' it m (ent ks') (ent tk')) : CutInv w wr' m it n ks ks' tk' := by
  have hn : (y :: tk').Nodup := hp.nodup_iff.1 h.ndt
  refine ⟨hf, hi, h.nd, (List.nodup_cons.1 hn).2, fun k => ?_, fun k hk => h.sub k (hp.mem_iff.2 (List.mem_cons_of_mem _ hk))⟩
  rw [h.mem k, hp.mem_iff, List.mem_cons]
  constructor
  · rintro ⟨h1, (rfl | h2) | h2⟩
    · exact ⟨h1, .inr hlt⟩
    · exact ⟨h1, .inl h2⟩
    · exact ⟨h1, .inr h2⟩
  · rintro ⟨h1, h2 | h2⟩
    · exact ⟨h1, .inl (.inr h2)⟩
    · exact ⟨h1, .inr h2⟩
theorem CutInv.gone {w wr wr' : World} {m it : Nat} {n : Int} {ks ks' tk tk' : List Int} {y : Int} (h : CutInv w wr m it n ks ks' tk) (hp : tk.Perm (y :: tk')) (hlt : ¬ y * 512 < n) (hf : Frm (fun x => x = m) w wr') (hi : IterAt (Value.int .i64) wr' it m (delL (ent ks') y) (ent tk')) : CutInv w wr' m it n ks (ks'.erase y) tk' := by
  have hn : (y :: tk').Nodup := hp.nodup_iff.1 h.ndt
  have hn1 := (List.nodup_cons.1 hn).1
  rw [delL_ent] at hi
  refine ⟨hf, hi, h.nd.erase _, (List.nodup_cons.1 hn).2, fun k => ?_, fun k hk => h.sub k (hp.mem_iff.2 (List.mem_cons_of_mem _ hk))⟩
  rw [h.nd.mem_erase_iff, h.mem k, hp.mem_iff, List.mem_cons]
  constructor
  · rintro ⟨h0, h1, (rfl | h2) | h2⟩
    · exact absurd rfl h0
    · exact ⟨h1, .inl h2⟩
    · exact ⟨h1, .inr h2⟩
  · rintro ⟨h1, h2 | h2⟩
    · exact ⟨fun e => hn1 (e ▸ h2), h1, .inl (.inr h2)⟩
    · exact ⟨fun e => hlt (e ▸ h2), h1, .inr h2⟩
set_option maxHeartbeats 1000000 in
set_option maxRecDepth 100000 in
theorem cutTo_calls {w : World} {fb o m : Nat} {cs : Array Value} {v : Value} {xs : List Int} {S : Nat → Bool} (hb : w.heap[fb]? = some (.cells cs 104 (0, 0))) (h0 : cs[o]? = some v) (h1 : cs[o + 1]? = some (.map (some m)))
    (hrow : w.ownsRow 0 5 1 v xs.length (u8s xs)) (hnb : v.ownBlock ≠ some fb) (hS : SetAt w m S) (hm : m ≠ fb) (n : Int) (hn0 : 0 ≤ n) (hn : n ≤ 4611686018427387904) (hxs : xs.length ≤ 4611686018427387904) (hk : ∀ k, S k = true → k < 9007199254740992) :
    Calls Tryz.prog 115 #[.pointer (some ⟨fb, o, none⟩), .int .i64 n] w fun e w' => e = .returned (.tuple #[]) ∧ ∃ v', v'.ownBlock = v.ownBlock ∧ w'.heap[fb]? = some (.cells (cs.setIfInBounds o v') 104 (0, 0)) ∧
      (∀ W : World, (∀ g, v.ownBlock = some g → W.heap[g]? = w.heap[g]?) → W.ownsRow 0 5 1 v' (xs.take n.toNat).length (u8s (xs.take n.toNat))) ∧ SetAt w' m (cutBad S n) ∧ Frm (fun k => k = fb ∨ k = m) w w' := by
  obtain ⟨ks, hks, hnd, hmem⟩ := hS
  change MapAt (Value.int .i64) w m (ent ks) at hks
  have hv : (v = .slice none 0 0 ∧ xs.length = 0) ∨ ∃ g c, v = .slice (some ⟨g, 0, none⟩) xs.length c ∧ xs.length ≤ c := by
    rcases hrow.2 with ⟨h1, h2⟩ | ⟨g, cap, cur, hv, _, _, h3, _⟩
    · exact .inl ⟨h1, h2⟩
    · exact .inr ⟨g, cap, hv, h3⟩
  have ho : o < cs.size := (Array.getElem?_eq_some_iff.1 h0).1
  have fblt := blk_lt hb
  have mlt := hks.lt
  have x0 : w.cell? ⟨fb, o, none⟩ = some v := cell_of hb h0
  have x2 : w.frozen? ⟨fb, o, none⟩ = false := frozen_of hb
  have y1 : ∀ v', (w.setCell ⟨fb, o, none⟩ v').cell? ⟨fb, o + 1, none⟩ = some (.map (some m)) := fun v' => by
    refine cell_of (blk_set hb) ?_
    rw [Array.getElem?_setIfInBounds_ne (by omega)]; exact h1
  have M1 : ∀ v', MapAt (Value.int .i64) (w.setCell ⟨fb, o, none⟩ v').drew m (ent ks) := fun v' => hks.of_block (blk_set_ne hm)
  have F1 : ∀ v', Frm (fun k => k = fb ∨ k = m) w (w.setCell ⟨fb, o, none⟩ v').drew := fun v' => ((Frm.refl _ _).setCell _ _ (fun _ => .inl rfl)).drew
  have B1 : ∀ v', (w.setCell ⟨fb, o, none⟩ v').drew.heap[fb]? = some (.cells (cs.setIfInBounds o v') 104 (0, 0)) := fun v' => blk_set hb
  have hmin : ∃ j : Nat, min n (xs.length : Int) = (j : Int) ∧ j = (xs.take n.toNat).length ∧ j ≤ xs.length := ⟨min n.toNat xs.length, by omega, by rw [List.length_take], by omega⟩
  obtain ⟨j, hj, hjl, hjx⟩ := hmin
  have HRow : Hid (∀ v', (v = .slice none 0 0 ∧ v' = v ∨ ∃ g c, v = .slice (some ⟨g, 0, none⟩) xs.length c ∧ v' = .slice (some ⟨g, 0, none⟩) j c) → ∀ W : World, (∀ g, v.ownBlock = some g → W.heap[g]? = w.heap[g]?) → W.ownsRow 0 5 1 v' (xs.take n.toNat).length (u8s (xs.take n.toNat))) := by
    intro v' hv' W hW
    have hr := ownsRow.same hrow hW
    refine ⟨by simp [u8s], ?_⟩
    rcases hv' with ⟨e1, e2⟩ | ⟨g, c, e1, e2⟩
    · rcases hr.2 with ⟨_, h2⟩ | ⟨g, cap, cur, hv, _⟩
      · exact .inl ⟨by rw [e2, e1], by rw [List.length_take, h2]; omega⟩
      · rw [e1] at hv; cases hv
    · rcases hr.2 with ⟨h2, _⟩ | ⟨g', cap, cur, hv, hg, hh, c1, c2, c3, c4⟩
      · rw [e1] at h2; cases h2
      · rw [e1] at hv
        simp only [Value.slice.injEq, Option.some.injEq, Addr.mk.injEq, true_and, and_true] at hv
        obtain ⟨rfl, rfl⟩ := hv
        refine .inr ⟨g, c, cur, by rw [e2, hjl], hg, hh, by omega, c2, c3, ?_⟩
        have e3 : xs.take n.toNat = xs.take j := by
          rw [List.take_eq_take_iff, hjl, List.length_take]; omega
        rw [← hjl, e3]
        have e4 : u8s (xs.take j) = (u8s xs).take j := by unfold u8s; rw [List.map_take]
        rw [e4, ← c4, List.take_take, Nat.mul_one, Nat.mul_one, Nat.min_eq_left hjx]
  have HMem := Lib.hid hmem
  have HK := Lib.hid hk
  clear hb h0 hrow hmem hk hjl
  have fin : ∀ v', v'.ownBlock = v.ownBlock → (v = .slice none 0 0 ∧ v' = v ∨ ∃ g c, v = .slice (some ⟨g, 0, none⟩) xs.length c ∧ v' = .slice (some ⟨g, 0, none⟩) j c) → ∀ w3, w3.heap[fb]? = some (.cells (cs.setIfInBounds o v') 104 (0, 0)) → SetAt w3 m (cutBad S n) → Frm (fun k => k = fb ∨ k = m) w w3 → 
      ∃ v', v'.ownBlock = v.ownBlock ∧ w3.heap[fb]? = some (.cells (cs.setIfInBounds o v') 104 (0, 0)) ∧
      (∀ W : World, (∀ g, v.ownBlock = some g → W.heap[g]? = w.heap[g]?) → W.ownsRow 0 5 1 v' (xs.take n.toNat).length (u8s (xs.take n.toNat))) ∧ SetAt w3 m (cutBad S n) ∧ Frm (fun k => k = fb ∨ k = m) w w3 :=
    fun v' e1 e2 w3 e3 e4 e5 => ⟨v', e1, e3, HRow.out v' e2, e4, e5⟩
  have FIN := Lib.hid fin
  have H1 := Lib.hid h1
  clear fin HRow h1
  rcases hv with ⟨rfl, hx0⟩ | ⟨g, c, rfl, hc⟩
  · have hj0 : min n ((0 : Nat) : Int) = 0 := by omega
    simp only [Int.natCast_zero] at hj0
    go_enter Tryz.func115, Tryz.ntmps115
    go_wp2_with fail
    go_still_tail 15, (by kernel_rfl)
    change wpList _ _ _ _ _ w.drew
    have m1 := M1 (.slice none 0 0)
    have f1 := F1 (.slice none 0 0)
    have b1 := B1 (.slice none 0 0)
    have y2 := y1 (.slice none 0 0)
    clear M1 F1 B1 y1
    go_wp2_with (first | (at_range; generalize (w.setCell ⟨fb, o, none⟩ (.slice none 0 0)).drew = W1 at *; refine wpl_range _ rfl _ rfl Tryz.underlying100 rfl m1 ?_; intro W2 hi2 hg2 hs2))
    have y3 : W1.cell? ⟨fb, o + 1, none⟩ = some (.map (some m)) := cell_of b1 (by rw [Array.getElem?_setIfInBounds_ne (by omega)]; exact H1.out)
    have I2 : CutInv W1 W2 m W1.heap.size n ks ks ks := ⟨(Frm.of_grown hg2).mono (fun k _ e => by simp at e), hi2, hnd, hnd, fun k => ⟨fun h => ⟨h, .inl h⟩, fun h => h.1⟩, fun _ h => h⟩
    have HI := Lib.hid I2
    have MM : m < W1.heap.size := Nat.lt_of_lt_of_le mlt f1.size
    have FF : fb < W1.heap.size := Nat.lt_of_lt_of_le fblt f1.size
    have HB := Lib.hid b1
    have HF := Lib.hid f1
    clear I2 hi2 hg2 hs2 m1 b1 f1
    go_frame
    go_loopw [] (fun wr => ∃ ks' tk, CutInv W1 wr m W1.heap.size n ks ks' tk) (fun wr => leftIn wr W1.heap.size m)
    case atStart => exact ⟨ks, ks, HI.out⟩
    case round =>
      obtain ⟨ks', tk, I⟩ := hrel
      have hsz : W1.heap.size < wr.heap.size := by
        obtain ⟨es, cl, sn, _, hh, _⟩ := I.iter
        exact blk_lt hh
      have II := Lib.hid I
      have hI := I.iter
      have z2 : wr.cell? ⟨fb, o + 1, none⟩ = some (.map (some m)) := (I.frm.cell FF (Ne.symm hm)).trans y3
      have hleft := I.iter.left
      clear I
      by_cases h0 : tk = []
      · subst h0
        go_wp2_with (first | (at_next; refine wpl_next _ rfl _ rfl rfl hI (fun h0 => ?_) (fun y vv todo' w1 hp hi1 hg1 hs1 hen => absurd hp.length_eq (by simp [ent]))))
        go_end0
        refine ⟨rfl, FIN.out (.slice none 0 0) (by simp [Value.ownBlock]) (by simp) _ ?_ ⟨ks', II.out.iter.map, II.out.nd, fun k => ?_⟩ (HF.out.trans II.out.frm (fun k _ e => .inr e))⟩
        · rw [II.out.frm.block fb FF (Ne.symm hm)]; exact HB.out
        · rw [II.out.mem k]
          unfold cutBad
          rw [HMem.out k]
          constructor
          · rintro ⟨⟨h1, h2⟩, h3⟩
            refine ⟨h1, ?_⟩
            have h4 : k * 512 < n := by simpa using h3
            rw [h2]; simp; omega
          · rintro ⟨h1, h2⟩
            simp only [Bool.and_eq_true, decide_eq_true_eq] at h2
            exact ⟨⟨h1, h2.1⟩, .inr (by omega)⟩
      · go_wp2_with (first
          | (at_next; (refine wpl_next _ rfl _ rfl rfl hI (fun h0x => absurd (List.map_eq_nil_iff.1 h0x) h0) (fun y vv todo' w1 hp hi1 hg1 hs1 hen => ?_); obtain ⟨rfl, tk', rfl, hp'⟩ := ent_perm hp; have hyk := (HMem.out y).1 (II.out.sub y (hp'.mem_iff.2 List.mem_cons_self)); have hyS := HK.out _ hyk.2; have hy0 : 0 ≤ y := hyk.1; have hy1 : y < 9007199254740992 := (by omega); have hyt : y ∉ (ent tk').map (·.1) := (by simpa [ent, Function.comp_def] using (List.nodup_cons.1 (hp'.nodup_iff.1 II.out.ndt)).1); have z3 := (hg1.cell_far ⟨fb, o + 1, none⟩ (Nat.lt_of_lt_of_le FF II.out.frm.size) (fun e => by have : fb = W1.heap.size := Option.some.inj e; omega)).trans z2; have HP' := Lib.hid hp'; clear hp' hp hyk hyS; by_cases hge : n ≤ y * 512))
          | (at_delete; refine wpl_delete_iter _ rfl _ _ rfl kI Tryz.underlying100 y rfl rfl hi1 hyt (fun w2 hi2 hg2 hs2 => ?_)))
        · have fr := (II.out.frm.grown hg1 (fun k e hk => by have := Option.some.inj e; omega)).grown hg2 (fun k e _ => (Option.some.inj e).symm)
          refine ⟨⟨_, _, _, _, _, _, _, _, _, _, _, _, _, _, ⟨_, tk', II.out.gone HP'.out (by omega) fr hi2⟩, rfl⟩, ?_⟩
          rw [hi2.left, hleft]
          have := HP'.out.length_eq
          simp [ent] at this ⊢
          omega
        · have fr := II.out.frm.grown hg1 (fun k e hk => by have := Option.some.inj e; omega)
          refine ⟨⟨ks', tk', II.out.kept HP'.out (by omega) fr hi1⟩, ?_⟩
          rw [hi1.left, hleft]
          have := HP'.out.length_eq
          simp [ent] at this ⊢
          omega
  · have hjc : j ≤ c := Nat.le_trans hjx hc
    go_enter Tryz.func115, Tryz.ntmps115
    go_wp2_with fail
    go_still_tail 15, (by kernel_rfl)
    change wpList _ _ _ _ _ w.drew
    have m1 := M1 (.slice (some ⟨g, 0, none⟩) j c)
    have f1 := F1 (.slice (some ⟨g, 0, none⟩) j c)
    have b1 := B1 (.slice (some ⟨g, 0, none⟩) j c)
    have y2 := y1 (.slice (some ⟨g, 0, none⟩) j c)
    clear M1 F1 B1 y1
    go_wp2_with (first | (at_range; generalize (w.setCell ⟨fb, o, none⟩ (.slice (some ⟨g, 0, none⟩) j c)).drew = W1 at *; refine wpl_range _ rfl _ rfl Tryz.underlying100 rfl m1 ?_; intro W2 hi2 hg2 hs2))
    have y3 : W1.cell? ⟨fb, o + 1, none⟩ = some (.map (some m)) := cell_of b1 (by rw [Array.getElem?_setIfInBounds_ne (by omega)]; exact H1.out)
    have I2 : CutInv W1 W2 m W1.heap.size n ks ks ks := ⟨(Frm.of_grown hg2).mono (fun k _ e => by simp at e), hi2, hnd, hnd, fun k => ⟨fun h => ⟨h, .inl h⟩, fun h => h.1⟩, fun _ h => h⟩
    have HI := Lib.hid I2
    have MM : m < W1.heap.size := Nat.lt_of_lt_of_le mlt f1.size
    have FF : fb < W1.heap.size := Nat.lt_of_lt_of_le fblt f1.size
    have HB := Lib.hid b1
    have HF := Lib.hid f1
    clear I2 hi2 hg2 hs2 m1 b1 f1
    go_frame
    go_loopw [] (fun wr => ∃ ks' tk, CutInv W1 wr m W1.heap.size n ks ks' tk) (fun wr => leftIn wr W1.heap.size m)
    case atStart => exact ⟨ks, ks, HI.out⟩
    case round =>
      obtain ⟨ks', tk, I⟩ := hrel
      have hsz : W1.heap.size < wr.heap.size := by
        obtain ⟨es, cl, sn, _, hh, _⟩ := I.iter
        exact blk_lt hh
      have II := Lib.hid I
      have hI := I.iter
      have z2 : wr.cell? ⟨fb, o + 1, none⟩ = some (.map (some m)) := (I.frm.cell FF (Ne.symm hm)).trans y3
      have hleft := I.iter.left
      clear I
      by_cases h0 : tk = []
      · subst h0
        go_wp2_with (first | (at_next; refine wpl_next _ rfl _ rfl rfl hI (fun h0 => ?_) (fun y vv todo' w1 hp hi1 hg1 hs1 hen => absurd hp.length_eq (by simp [ent]))))
        go_end0
        refine ⟨rfl, FIN.out (.slice (some ⟨g, 0, none⟩) j c) (by simp [Value.ownBlock]) (.inr ⟨g, c, rfl, rfl⟩) _ ?_ ⟨ks', II.out.iter.map, II.out.nd, fun k => ?_⟩ (HF.out.trans II.out.frm (fun k _ e => .inr e))⟩
        · rw [II.out.frm.block fb FF (Ne.symm hm)]; exact HB.out
        · rw [II.out.mem k]
          unfold cutBad
          rw [HMem.out k]
          constructor
          · rintro ⟨⟨h1, h2⟩, h3⟩
            refine ⟨h1, ?_⟩
            have h4 : k * 512 < n := by simpa using h3
            rw [h2]; simp; omega
          · rintro ⟨h1, h2⟩
            simp only [Bool.and_eq_true, decide_eq_true_eq] at h2
            exact ⟨⟨h1, h2.1⟩, .inr (by omega)⟩
      · go_wp2_with (first
          | (at_next; (refine wpl_next _ rfl _ rfl rfl hI (fun h0x => absurd (List.map_eq_nil_iff.1 h0x) h0) (fun y vv todo' w1 hp hi1 hg1 hs1 hen => ?_); obtain ⟨rfl, tk', rfl, hp'⟩ := ent_perm hp; have hyk := (HMem.out y).1 (II.out.sub y (hp'.mem_iff.2 List.mem_cons_self)); have hyS := HK.out _ hyk.2; have hy0 : 0 ≤ y := hyk.1; have hy1 : y < 9007199254740992 := (by omega); have hyt : y ∉ (ent tk').map (·.1) := (by simpa [ent, Function.comp_def] using (List.nodup_cons.1 (hp'.nodup_iff.1 II.out.ndt)).1); have z3 := (hg1.cell_far ⟨fb, o + 1, none⟩ (Nat.lt_of_lt_of_le FF II.out.frm.size) (fun e => by have : fb = W1.heap.size := Option.some.inj e; omega)).trans z2; have HP' := Lib.hid hp'; clear hp' hp hyk hyS; by_cases hge : n ≤ y * 512))
          | (at_delete; refine wpl_delete_iter _ rfl _ _ rfl kI Tryz.underlying100 y rfl rfl hi1 hyt (fun w2 hi2 hg2 hs2 => ?_)))
        · have fr := (II.out.frm.grown hg1 (fun k e hk => by have := Option.some.inj e; omega)).grown hg2 (fun k e _ => (Option.some.inj e).symm)
          refine ⟨⟨_, _, _, _, _, _, _, _, _, _, _, _, _, _, ⟨_, tk', II.out.gone HP'.out (by omega) fr hi2⟩, rfl⟩, ?_⟩
          rw [hi2.left, hleft]
          have := HP'.out.length_eq
          simp [ent] at this ⊢
          omega
        · have fr := II.out.frm.grown hg1 (fun k e hk => by have := Option.some.inj e; omega)
          refine ⟨⟨ks', tk', II.out.kept HP'.out (by omega) fr hi1⟩, ?_⟩
          rw [hi1.left, hleft]
          have := HP'.out.length_eq
          simp [ent] at this ⊢
          omega
end Go.Proofs.YtglhedahannjiaaGreatDoor.Dw

/- A file is cut: what the memory is then. -/
namespace Go.Proofs.YtglhedahannjiaaGreatDoor.Da
open Go.RowKit Go.ChangeMaps Go.Proofs.YtglhedahannjiaaGreatDoor.Mp Go.Proofs.YtglhedahannjiaaGreatDoor.Dm
set_option linter.unusedVariables false
set_option linter.unusedSimpArgs false
set_option linter.unusedSectionVars false
section
variable {B : Nat} {w w3 : World} {b : Nat} {A : Adr} {lab : Nat → Option Lb} {D : Disk}
theorem DiskAt.truncFile (h : DiskAt B w b A lab D) {i : Nat} {f : FileS} (hf : D.files[i]? = some f) (n : Int) {v1 v2 : Value} (e1 : v1.ownBlock = (A.fa i).sd.ownBlock) (e2 : v2.ownBlock = (A.fa i).ad.ownBlock)
    (hb : w3.heap[(A.fa i).fb]? = some (.cells #[.int .i64 (i + 1 : Nat), v1, .map (some (A.fa i).sb), v2, .map (some (A.fa i).ab), .map (some (A.fa i).wb)] 104 (0, 0)))
    (r1 : w3.ownsRow 0 5 1 v1 (f.seen.take n.toNat).length (u8s (f.seen.take n.toNat))) (r2 : w3.ownsRow 0 5 1 v2 (f.safe.take n.toNat).length (u8s (f.safe.take n.toNat)))
    (s1 : SetAt w3 (A.fa i).sb (cutBad f.badSeen n)) (s2 : SetAt w3 (A.fa i).ab (cutBad f.badSafe n)) (s3 : SetAt w3 (A.fa i).wb (cutBad f.waits n))
    (hfr : Frm (fun k => k = (A.fa i).fb ∨ k = (A.fa i).sb ∨ k = (A.fa i).ab ∨ k = (A.fa i).wb) w w3) : Ext B b lab w w3 (D.modify i (FileS.trunc n)) := by
  have F := h.files i f hf
  refine h.setFile hf (FileS.trunc n) (a' := { A.fa i with sd := v1, ad := v2 }) (lab' := lab) ⟨hb, F.lfb, ⟨r1, fun g hg => F.seen.lab g (by rw [← e1]; exact hg)⟩, ⟨r2, fun g hg => F.safe.lab g (by rw [← e2]; exact hg)⟩, s1, F.lsb, s2, F.lab_, s3, F.lwb⟩ rfl ?_ ?_ ?_ (fun _ _ h => h)
  · intro k p hl hp
    refine ⟨hfr.block k (h.base k p hl).2 ?_, hl⟩
    rintro (e | e | e | e)
    · exact ne_of_lab hl F.lfb (by rintro rfl; exact hp (by simp [isOf])) e
    · exact ne_of_lab hl F.lsb (by rintro rfl; exact hp (by simp [isOf])) e
    · exact ne_of_lab hl F.lab_ (by rintro rfl; exact hp (by simp [isOf])) e
    · exact ne_of_lab hl F.lwb (by rintro rfl; exact hp (by simp [isOf])) e
  · exact fun k p hl => ⟨(h.base k p hl).1, Nat.lt_of_lt_of_le (h.base k p hl).2 hfr.size⟩
  · refine hfr.mono (fun k _ e => ?_)
    unfold Ft
    rcases e with e | e | e | e <;> rw [e]
    · rw [F.lfb]; rfl
    · rw [F.lsb]; rfl
    · rw [F.lab_]; rfl
    · rw [F.lwb]; rfl
end
end Go.Proofs.YtglhedahannjiaaGreatDoor.Da
