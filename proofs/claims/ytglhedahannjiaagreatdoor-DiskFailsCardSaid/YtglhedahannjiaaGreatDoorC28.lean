/- A part of the proof of diskKeptUpto_holds: Fl, Dp7. No condition. -/
import Derived.Test.YtglhedahannjiaaGreatDoorC27

/- Walks: all: a fate for each sector of an image's files, and some more. -/
namespace Go.Proofs.YtglhedahannjiaaGreatDoor.Dm
set_option linter.unusedVariables false
def allFrom (l : List Plain) (n : Nat) : Nat := l.foldl (fun n p => n + p.data.length / 512 + 1) n
def allN (l : List Plain) : Nat := allFrom l 1
theorem allFrom_snoc (l : List Plain) (p : Plain) (n : Nat) : allFrom (l ++ [p]) n = allFrom l n + p.data.length / 512 + 1 := by unfold allFrom; rw [List.foldl_append]; rfl
theorem allFrom_eq : ∀ (l : List Plain) (n : Nat), allFrom l n = n + (l.map fun p => p.data.length / 512 + 1).sum
  | [], n => by simp [allFrom]
  | p :: l, n => by
    have := allFrom_eq l (n + p.data.length / 512 + 1)
    unfold allFrom at this ⊢
    rw [List.foldl_cons, this, List.map_cons, List.sum_cons]; omega
theorem allFrom_take (l : List Plain) (n j : Nat) : allFrom (l.take j) n ≤ allFrom l n := by
  rw [allFrom_eq, allFrom_eq]
  have : ∀ (l : List Plain) (j : Nat), ((l.take j).map fun p => p.data.length / 512 + 1).sum ≤ (l.map fun p => p.data.length / 512 + 1).sum := by
    intro l
    induction l with
    | nil => intro j; simp
    | cons p l ih =>
      intro j
      cases j with
      | zero => simp
      | succ j => simp only [List.take_succ_cons, List.map_cons, List.sum_cons]; have := ih j; omega
  have := this l j
  omega
theorem rep_set (n j : Nat) (x : Int) (h : j < n) : (List.replicate j x ++ List.replicate (n - j) 0).set j x = List.replicate (j + 1) x ++ List.replicate (n - (j + 1)) 0 := by
  rw [List.set_append_right _ _ (by simp), List.length_replicate, Nat.sub_self]
  obtain ⟨m, hm⟩ : ∃ m, n - j = m + 1 := ⟨n - j - 1, by omega⟩
  rw [hm, List.replicate_succ, List.set_cons_zero, show n - (j + 1) = m by omega, List.replicate_succ' (n := j), List.append_assoc]; rfl
end Go.Proofs.YtglhedahannjiaaGreatDoor.Dm
namespace Go.Proofs.YtglhedahannjiaaGreatDoor.Dw
open Go.RowKit Go.ChangeMaps Go.Proofs.YtglhedahannjiaaGreatDoor.Mp Go.Proofs.YtglhedahannjiaaGreatDoor.Dm Go.Proofs.YtglhedahannjiaaGreatDoor.Da
open Go.Proofs.YtglhedahannjiaaGreatDoorW.PrintWords (Kd ReadsInt own_store nums)
set_option linter.unusedVariables false
set_option linter.unusedSimpArgs false
set_option linter.unusedSectionVars false
set_option maxHeartbeats 1000000 in
set_option maxRecDepth 100000 in
theorem all_calls (w : World) (v : Value) (l : List Plain) (fate : Int) (h : ImgRd w v l) (hd : ∀ p, p ∈ l → p.data.length ≤ 140737488355328) (hN : allN l ≤ 4398046511104) :
    Calls Tryz.prog 39 #[v, .int .i64 fate] w fun e w' => ∃ p c, e = .returned (.slice p (allN l) c) ∧ allN l ≤ c ∧ w'.ownsRow w.heap.size 3 1 (.slice p (allN l) c) (allN l) (i64s (List.replicate (allN l) fate)) ∧ Frm (fun _ => False) w w' := by
  obtain ⟨B1, d1, rfl, hd1, hC1⟩ := h
  have hll := hC1.2.1
  have H1 := Lib.hid hC1
  have HD := Lib.hid hd
  have HN0 : Hid (∀ j, allFrom (l.take j) 1 ≤ allN l) := fun j => allFrom_take l 1 j
  obtain ⟨N, hNN⟩ : ∃ N, N = allN l := ⟨_, rfl⟩
  rw [← hNN] at hN HN0 ⊢
  have HNN := Lib.hid hNN
  clear hC1 hd hNN
  go_enter Tryz.func39, Tryz.ntmps39
  go_wp2
  go_loopw [5, 6] (fun s v wr => ∃ j n, v = .int .i64 (j : Nat) ∧ s = .int .i64 (n : Nat) ∧ j ≤ l.length ∧ n = allFrom (l.take j) 1 ∧ n ≤ N ∧ Frm (fun _ => False) w wr ∧ wr.heap[w.heap.size]? = some (.cells #[.slice B1 l.length d1] 36 (0, 0))) (fun _ v _ => l.length - (intOf v).toNat)
  case atStart => exact ⟨0, 1, rfl, rfl, Nat.zero_le _, rfl, HN0.out 0, (Frm.refl _ _).alloc _, blk_alloc⟩
  case round =>
    obtain ⟨j, n, rfl, rfl, hj, hn, hnb, hfr, hb1⟩ := hrel
    have x1 : wr.cell? ⟨w.heap.size, 0, none⟩ = some (.slice B1 l.length d1) := cell_of hb1 rfl
    have HB := Lib.hid (And.intro hn (And.intro hfr hb1))
    clear hn hfr hb1
    by_cases hlt : j < l.length
    · obtain ⟨p, hp⟩ : ∃ p, l[j]? = some p := ⟨_, List.getElem?_eq_getElem hlt⟩
      obtain ⟨a1, P1, s1, Q1, u1, rfl, k0, k1, k2, hby, hbd, hu1, hbl1⟩ := img_cells H1.out hp
      have k1' := frm_cell HB.out.2.1 k1
      have hdp := HD.out p (List.mem_of_getElem? hp)
      have hj1 : j < d1 := by omega
      have hstep : allFrom (l.take (j + 1)) 1 = n + p.data.length / 512 + 1 := by
        rw [List.take_add_one, hp]; show allFrom (l.take j ++ [p]) 1 = _; rw [allFrom_snoc, ← HB.out.1]
      have hb2 := HN0.out (j + 1)
      rw [hstep] at hb2
      have tdv : Int.tdiv (p.data.length : Int) 512 = ((p.data.length / 512 : Nat) : Int) := by rw [Int.tdiv_eq_ediv_of_nonneg (by omega)]; omega
      obtain ⟨q, hq⟩ : ∃ q, q = p.data.length / 512 := ⟨_, rfl⟩
      rw [← hq] at hstep hb2 tdv
      have HST := Lib.hid hstep
      have HQ := Lib.hid hq
      have hdq : (p.data.length : Int) / 512 = (q : Int) := by rw [hq]; omega
      clear k0 k1 k2 hby hbd hp hstep hq
      go_wp2
      exact ⟨⟨j + 1, n + q + 1, by go_num, by first | go_num | (simp; omega), by omega, by rw [HST.out], by omega, HB.out.2.1, HB.out.2.2⟩, by simp [intOf]; omega⟩
    · obtain rfl : j = l.length := by omega
      have hend : n = N := by rw [HB.out.1, List.take_length, HNN.out]; rfl
      subst hend
      obtain ⟨i0, hi0, hz0, hz1, hz2⟩ := info_parts intInfo
      have hmx : maxLen = 9223372036854775807 := by decide
      have hwr : w.heap.size ≤ wr.heap.size := HB.out.2.1.size
      go_wp2_with (first
        | (at_make; refine wpList_make_full _ rfl _ _ _ rfl w.heap.size 3 i0 _ 1 Tryz.underlying23 hi0 hz0 hz1 .i64 .i64 _ _ n rfl rfl rfl rfl (by rw [hz2]; omega) (by omega) hwr ?_; intro w5 hown5 hg5))
      have hown5' : w5.ownsRow w.heap.size 3 1 (.slice (some ⟨wr.heap.size, 0, none⟩) n n) n (i64s (List.replicate 0 fate ++ List.replicate (n - 0) 0)) := by
        have e : (madeCells (Value.int .i64 0).cells (n * 1)).toList = i64s (List.replicate 0 fate ++ List.replicate (n - 0) 0) := by
          apply List.ext_getElem
          · simp [i64s, madeCells]
          · intro j h1 h2; simp [i64s, madeCells, Value.cells, Nat.mod_one]
        rw [← e]; exact hown5
      have f5 : Frm (fun _ => False) w w5 := HB.out.2.1.trans ((Frm.of_grown hg5).mono (fun k _ e => by cases e)) (fun _ _ h => h)
      have hg5l : wr.heap.size < w5.heap.size := (own_low hown5 (k := wr.heap.size) rfl).2
      have H5 := Lib.hid (And.intro hown5' f5)
      clear hown5 hown5' hg5 f5
      generalize wr.heap.size = gf at *
      go_loopw [8] (fun v wx => ∃ j, v = .int .i64 (j : Nat) ∧ j ≤ n ∧ Frm (fun _ => False) w wx ∧ gf < wx.heap.size ∧ wx.ownsRow w.heap.size 3 1 (.slice (some ⟨gf, 0, none⟩) n n) n (i64s (List.replicate j fate ++ List.replicate (n - j) 0))) (fun v _ => n - (intOf v).toNat)
      case atStart => exact ⟨0, rfl, Nat.zero_le _, H5.out.2, hg5l, H5.out.1⟩
      case round =>
        obtain ⟨j, rfl, hj, fx, hgx, hrx⟩ := hrel
        by_cases hjl : j < n
        · have hcj : ∃ u, wr.cell? ⟨gf, j, none⟩ = some u ∧ wr.frozen? ⟨gf, j, none⟩ = false := by
            rcases hrx.2 with ⟨h1, _⟩ | ⟨g', cap', cur, hv, _, hh, _, _, _, h4⟩
            · cases h1
            · simp only [Value.slice.injEq, Option.some.injEq, Addr.mk.injEq, true_and, and_true] at hv
              obtain ⟨rfl, rfl⟩ := hv
              refine ⟨.int .i64 0, ?_, frozen_of hh⟩
              rw [hrx.cellAt j (by omega)]
              unfold i64s
              rw [List.getElem?_map, List.getElem?_append_right (by simp), List.length_replicate, Nat.sub_self, List.getElem?_replicate, if_pos (by omega)]; rfl
          obtain ⟨u, cj, cfz⟩ := hcj
          have hrow' : (wr.setCell ⟨gf, j, none⟩ (.int .i64 fate)).ownsRow w.heap.size 3 1 (.slice (some ⟨gf, 0, none⟩) n n) n (i64s (List.replicate (j + 1) fate ++ List.replicate (n - (j + 1)) 0)) := by
            have h1 := (hrx.stored j (.int .i64 fate)).1
            have h2 : (i64s (List.replicate j fate ++ List.replicate (n - j) 0)).set j (.int .i64 fate) = i64s (List.replicate (j + 1) fate ++ List.replicate (n - (j + 1)) 0) := by
              rw [← rep_set n j fate hjl]
              unfold i64s
              rw [List.map_set]
            rw [h2] at h1
            exact h1
          have hlow : w.heap.size ≤ gf := (own_low hrx (k := gf) rfl).1
          have fx' : Frm (fun _ => False) w (wr.setCell ⟨gf, j, none⟩ (.int .i64 fate)) := Frm.setCell fx _ _ (fun h => absurd h (by simp; omega))
          have HR := Lib.hid (And.intro hrow' fx')
          clear hrow' fx' hrx
          go_wp2_with fail
          exact ⟨⟨j + 1, by go_num, by omega, HR.out.2, by simpa using hgx, HR.out.1⟩, by simp [intOf]; omega⟩
        · obtain rfl : j = n := by omega
          rw [Nat.sub_self, List.replicate_zero, List.append_nil] at hrx
          have HR := Lib.hid (And.intro hrx fx)
          clear hrx fx
          go_wp2
          go_ret
          exact ⟨_, _, rfl, Nat.le_refl _, HR.out.1, HR.out.2⟩
end Go.Proofs.YtglhedahannjiaaGreatDoor.Dw

/- The pure disk: all kept is what is seen. -/
namespace Go.Proofs.YtglhedahannjiaaGreatDoor.Dm
set_option linter.unusedVariables false
theorem fresh_off (D : Disk) : D.fresh.off = false := by
  unfold Disk.fresh
  by_cases h : D.off = true
  · rw [if_pos h]; rfl
  · rw [if_neg h]
    unfold Disk.arm
    rw [if_neg h]
    simpa using h
theorem Inv.fresh {D : Disk} (h : Inv D) : Inv D.fresh := by
  unfold Disk.fresh
  split
  · have hc := crash_img h [] 0
    exact Inv.load hc.good hc.bytes
  · exact h.arm [] 0
theorem waitingN_eq {D : Disk} {l : List (Name × Nat)} (h : l.Perm D.now) : (l.map fun p => (waitList (D.file p.2)).length).sum = D.waitingN := by
  unfold Disk.waitingN
  exact (h.map _).sum_nat
/-- All kept: what is seen. -/
theorem crash_kept {D : Disk} (h : Inv D) (hoff : D.off = false) {N : Nat} (hN : D.waitingN ≤ N) : D.crash (List.replicate N 1) (D.changes.length : Nat) = D.seenImg := by
  obtain ⟨c, hc, e⟩ := crash_eq h (List.replicate N 1) (D.changes.length : Nat)
  have el : D.left ((D.changes.length : Nat) : Int).toNat = D.now := by rw [Int.toNat_natCast]; exact h.left
  rw [el] at e hc
  rw [e]
  unfold Disk.seenImg
  rw [if_neg (by rw [hoff]; simp)]
  refine List.map_congr_left fun p hp => ?_
  have hp' : p ∈ D.now := (inOrder_perm _).mem_iff.1 hp
  have h1 := hc p hp'
  rw [waitingN_eq (byBirth_perm D.now)] at h1
  have hf : fatesFrom (List.replicate N 1) (c p) (waitList (D.file p.2)).length = List.replicate (waitList (D.file p.2)).length 1 := by
    unfold fatesFrom
    apply List.ext_getElem
    · simp
    · intro i h2 h3
      simp only [List.length_replicate] at h3
      simp only [List.getElem_map, List.getElem_range, List.getElem_replicate]
      rw [List.getElem?_replicate, if_pos (by omega)]; rfl
  rw [hf, fated_kept (h.fileOk p.2) (fun x hx => List.eq_of_mem_replicate hx) (by simp)]
theorem wl_len (D : Disk) (i : Nat) : (waitList (D.file i)).length ≤ (D.file i).seen.length / 512 + 1 := by
  unfold waitList
  refine Nat.le_trans (List.length_filter_le _ _) ?_
  simp only [List.length_range]
  unfold sectors; omega
theorem sum_mono {α : Type} {l : List α} {f g : α → Nat} (h : ∀ x, f x ≤ g x) : (l.map f).sum ≤ (l.map g).sum := by
  induction l with
  | nil => simp
  | cons a l ih => simp only [List.map_cons, List.sum_cons]; have := h a; omega
/-- A fate for each sector of what is seen: enough. -/
theorem all_enough {D : Disk} (hoff : D.off = false) : D.waitingN ≤ allN D.seenImg := by
  unfold allN Disk.seenImg
  rw [if_neg (by rw [hoff]; simp), allFrom_eq, List.map_map, ← waitingN_eq (inOrder_perm D.now)]
  have : ((inOrder D.now).map fun p => (waitList (D.file p.2)).length).sum ≤ ((inOrder D.now).map ((fun p : Plain => p.data.length / 512 + 1) ∘ fun p : Name × Nat => plain p.1 ⟨(D.file p.2).seen, (D.file p.2).badSeen⟩)).sum :=
    sum_mono fun p => wl_len D p.2
  omega
theorem allN_le {l : List Plain} {n m : Nat} (hn : l.length ≤ n) (hm : ∀ p, p ∈ l → p.data.length ≤ m) : allN l ≤ 1 + n * (m / 512 + 1) := by
  unfold allN
  rw [allFrom_eq]
  have : ∀ l : List Plain, (∀ p, p ∈ l → p.data.length ≤ m) → (l.map fun p => p.data.length / 512 + 1).sum ≤ l.length * (m / 512 + 1) := by
    intro l
    induction l with
    | nil => intro _; simp
    | cons p l ih =>
      intro h
      have h1 := ih fun q hq => h q (List.mem_cons_of_mem _ hq)
      have h2 := h p List.mem_cons_self
      have h3 : p.data.length / 512 ≤ m / 512 := Nat.div_le_div_right h2
      simp only [List.map_cons, List.sum_cons, List.length_cons, Nat.succ_mul]
      omega
  have h1 := this l hm
  have h2 : l.length * (m / 512 + 1) ≤ n * (m / 512 + 1) := Nat.mul_le_mul_right _ hn
  omega
theorem seen_len {D : Disk} (h : Inv D) {m : Nat} (hm : ∀ f, f ∈ D.files → f.seen.length ≤ m) : D.seenImg.length ≤ D.files.length ∧ ∀ p, p ∈ D.seenImg → p.data.length ≤ m := by
  unfold Disk.seenImg
  split
  · simp
  · refine ⟨by rw [List.length_map, (inOrder_perm _).length_eq]; exact h.now.len_le, fun p hp => ?_⟩
    obtain ⟨q, hq, rfl⟩ := List.mem_map.1 hp
    have hlt := h.now.lt q ((inOrder_perm _).mem_iff.1 hq)
    show (D.file q.2).seen.length ≤ m
    unfold Disk.file
    rw [List.getElem?_eq_getElem hlt]
    exact hm _ (List.getElem_mem hlt)
end Go.Proofs.YtglhedahannjiaaGreatDoor.Dm
