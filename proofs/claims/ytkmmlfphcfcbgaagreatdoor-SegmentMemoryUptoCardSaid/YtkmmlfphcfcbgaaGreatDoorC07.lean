/- A part of the proof of segmentMemoryUpto_holds: Eg, Ej0, Sb. No condition. -/
import Derived.Test.YtkmmlfphcfcbgaaGreatDoorC06

/- Walks: plain. -/
namespace Go.Proofs.YtkmmlfphcfcbgaaGreatDoor.Dw
open Go.RowKit Go.ChangeMaps Go.Proofs.YtkmmlfphcfcbgaaGreatDoor.Mp Go.Proofs.YtkmmlfphcfcbgaaGreatDoor.Dm Go.Proofs.YtkmmlfphcfcbgaaGreatDoor.Da
set_option linter.unusedVariables false
set_option linter.unusedSimpArgs false
set_option linter.unusedSectionVars false
/-- Bytes that lie in memory, in whole. -/
def Lies (w : World) (v : Value) (xs : List Int) : Prop := (v = .slice none 0 0 ∧ xs = []) ∨ ∃ b off c, v = .slice (some ⟨b, off, none⟩) xs.length c ∧ ∀ j u, (u8s xs)[j]? = some u → w.cell? ⟨b, off + j, none⟩ = some u
theorem Lies.frm {w w1 : World} {v : Value} {xs : List Int} (h : Lies w v xs) (hf : Frm (fun _ => False) w w1) : Lies w1 v xs := by
  rcases h with h | ⟨b, off, c, e, hc⟩
  · exact .inl h
  · refine .inr ⟨b, off, c, e, fun j u hu => ?_⟩
    rw [← hc j u hu]
    exact hf.cell (World.block_lt_of_cell? w _ (hc j u hu)) id
/-- In plain's loop: s2: the file's cells, s1: the result's. -/
structure PlainInv (w wr : World) (n : Name) (dv : Value) (xs : List Int) (s1 s2 m it : Nat) (ks tk dk : List Int) (bv : Value) : Prop where
  frm : Frm (fun _ => False) w wr
  blk : wr.heap[s2]? = some (.cells #[.string n, dv, bv] 78 (0, 0))
  res : wr.heap[s1]? = some (.cells #[.string ⟨#[]⟩, .slice none 0 0, .slice none 0 0] 78 (0, 0))
  data : wr.ownsRow w.heap.size 5 1 dv xs.length (u8s xs)
  row : wr.ownsRow w.heap.size 3 1 bv dk.length (i64s dk)
  iter : IterAt (Value.int .i64) wr it m (ent ks) (ent tk)
  perm : (tk ++ dk).Perm ks
theorem own_weaken_ {w : World} {base base' : Nat} {e : TypeId} {size n : Nat} {v : Value} {xs : List Value} (h : w.ownsRow base e size v n xs) (hb : base' ≤ base) : w.ownsRow base' e size v n xs := by
  refine ⟨h.1, ?_⟩
  rcases h.2 with h2 | ⟨g, cap, cur, hv, hg, r⟩
  · exact .inl h2
  · exact .inr ⟨g, cap, cur, hv, Nat.le_trans hb hg, r⟩
theorem own_ne_cells {w : World} {base : Nat} {e t : TypeId} {size n g : Nat} {v : Value} {xs : List Value} {cs : Array Value} (h : w.ownsRow base e size v n xs) (hg : w.heap[g]? = some (.cells cs t (0, 0))) (hne : e ≠ t) : some g ≠ v.ownBlock := by
  rcases h.2 with ⟨rfl, _⟩ | ⟨b, cap, cur, rfl, _, hb, _⟩
  · simp [Value.ownBlock]
  · intro e1
    have : g = b := by simpa [Value.ownBlock] using e1
    subst this; rw [hg] at hb; cases hb; exact hne rfl
theorem own_ne_own {w : World} {b1 b2 : Nat} {e1 e2 : TypeId} {z1 z2 n1 n2 : Nat} {v1 v2 : Value} {xs1 xs2 : List Value} (h1 : w.ownsRow b1 e1 z1 v1 n1 xs1) (h2 : w.ownsRow b2 e2 z2 v2 n2 xs2) (hne : e1 ≠ e2) : ∀ g, v1.ownBlock = some g → some g ≠ v2.ownBlock := by
  intro g hg
  rcases h1.2 with ⟨rfl, _⟩ | ⟨b, cap, cur, rfl, _, hb, _⟩
  · simp [Value.ownBlock] at hg
  · have : b = g := by simpa [Value.ownBlock] using hg
    subst this
    exact own_ne_cells h2 hb (Ne.symm hne)
set_option maxHeartbeats 1000000 in
set_option maxRecDepth 100000 in
theorem plain_calls {w : World} (n : Name) (v : Value) (xs : List Int) (m : Nat) (S : Nat → Bool) (hv : Lies w v xs) (hS : SetAt w m S) (hM : ∀ k, S k = true → k < sectors xs.length) (hn : xs.length ≤ 4398046511104) :
    Calls Tryz.prog 91 #[.string n, .agg #[v, .map (some m)]] w fun e w' => ∃ dv bv, e = .returned (.agg #[.string n, dv, bv]) ∧ w'.ownsRow w.heap.size 5 1 dv xs.length (u8s xs) ∧
      w'.ownsRow w.heap.size 3 1 bv (numbers S (sectors xs.length)).length (i64s (numbers S (sectors xs.length))) ∧ Frm (fun _ => False) w w' := by
  obtain ⟨i0, hi0, hz0, hz1, hz2⟩ := info_parts intInfo
  obtain ⟨ks, hks, hnd, hmem⟩ := hS
  change MapAt (Value.int .i64) w m (ent ks) at hks
  have hMl : sectors xs.length ≤ 4398046511104 := by unfold sectors; omega
  generalize hMe : sectors xs.length = M at *
  have hlen : ks.length ≤ M := by
    have e := sorted_set (List.Perm.refl ks) hnd hmem hM
    have h1 : (ks.mergeSort leI).length = ks.length := by simp
    rw [← h1, e]
    unfold numbers
    simp only [List.length_map]
    exact Nat.le_trans (List.length_filter_le _ _) (by simp)
  have hfin : Hid (∀ dk : List Int, dk.Perm ks → dk.mergeSort leI = numbers S M) := fun dk hp => sorted_set hp hnd hmem hM
  have hmx : maxLen = 9223372036854775807 := by decide
  have hml := hks.lt
  have KEY : Hid (∀ W, Frm (fun _ => False) w W → Calls Tryz.prog 76 #[v] W fun e w' => ∃ v', e = .returned v' ∧ w'.ownsRow W.heap.size 5 1 v' xs.length (u8s xs) ∧ Below W.heap.size W w') := fun W hf =>
    (cloneB_calls v xs W (hv.frm hf) (by omega)).mono fun e w' ⟨v', h1, h2, h3, _⟩ => ⟨v', h1, h2, h3⟩
  have hvf : ∃ p k c, v = .slice p k c := by
    rcases hv with ⟨h1, _⟩ | ⟨b, off, c, h1, _⟩
    · exact ⟨_, _, _, h1⟩
    · exact ⟨_, _, _, h1⟩
  obtain ⟨p0, k0, c0, rfl⟩ := hvf
  have HL := Lib.hid hMe
  clear hmem hM hnd hv hMe
  go_enter Tryz.func91, Tryz.ntmps91
  go_wp2_with fail
  refine (KEY.out _ (((Frm.refl _ _).alloc _).alloc _)).mono ?_
  rintro e w1 ⟨dv, rfl, hd, hb1⟩
  have f1 : Frm (fun _ => False) w w1 := (((Frm.refl (fun _ => False) w).alloc _).alloc _).trans (Frm.of_below hb1 _) (fun _ _ h => h)
  have s1 := hb1.size
  obtain ⟨pd, cd, rfl⟩ := own_form hd
  have b0 : w1.heap[w.heap.size]? = some (.cells #[.slice p0 k0 c0, .map (some m)] 142 (0, 0)) := (hb1.block _ (by simp; omega)).trans ((blk_alloc_lt (by simp)).trans blk_alloc)
  have b1 : w1.heap[w.heap.size + 1]? = some (.cells #[.string ⟨#[]⟩, .slice none 0 0, .slice none 0 0] 78 (0, 0)) := by
    refine (hb1.block _ (by simp)).trans ?_
    rw [show w.heap.size + 1 = (w.alloc (.cells #[.slice p0 k0 c0, .map (some m)] 142)).heap.size by simp only [World.size_alloc]]
    exact blk_alloc
  simp only [World.size_alloc] at s1
  have z0 : (w1.alloc (.cells #[.string n, .slice pd xs.length cd, .slice none 0 0] 78)).cell? ⟨w.heap.size, 1, none⟩ = some (.map (some m)) := cell_alloc (cell_of b0 rfl)
  have M1 : MapAt (Value.int .i64) (w1.alloc (.cells #[.string n, .slice pd xs.length cd, .slice none 0 0] 78)) m (ent ks) := hks.of_block ((blk_alloc_lt (by omega)).trans (f1.block m hml id))
  have F2 : Frm (fun _ => False) w (w1.alloc (.cells #[.string n, .slice pd xs.length cd, .slice none 0 0] 78)) := f1.alloc _
  have B2 : (w1.alloc (.cells #[.string n, .slice pd xs.length cd, .slice none 0 0] 78)).heap[w1.heap.size]? = some (.cells #[.string n, .slice pd xs.length cd, .slice none 0 0] 78 (0, 0)) := blk_alloc
  have R2 : (w1.alloc (.cells #[.string n, .slice pd xs.length cd, .slice none 0 0] 78)).heap[w.heap.size + 1]? = some (.cells #[.string ⟨#[]⟩, .slice none 0 0, .slice none 0 0] 78 (0, 0)) := (blk_alloc_lt (by omega)).trans b1
  have D2 : (w1.alloc (.cells #[.string n, .slice pd xs.length cd, .slice none 0 0] 78)).ownsRow w.heap.size 5 1 (.slice pd xs.length cd) xs.length (u8s xs) :=
    own_grown (own_weaken_ hd (by simp; omega)) (World.grownBy_alloc _ _ none) (fun g _ => by simp)
  have S2 : (w1.alloc (.cells #[.string n, .slice pd xs.length cd, .slice none 0 0] 78)).heap.size = w1.heap.size + 1 := by simp only [World.size_alloc]
  clear hd hb1 b0 b1
  go_wp2_with (first | (at_range; generalize w1.alloc (.cells #[.string n, .slice pd xs.length cd, .slice none 0 0] 78) = W2 at *; refine wpl_range _ rfl _ rfl Tryz.underlying140 rfl M1 ?_; intro W3 hi3 hg3 hs3; rw [S2] at hi3 hs3 ⊢))
  have I3 : PlainInv w W3 n (.slice pd xs.length cd) xs (w.heap.size + 1) w1.heap.size m (w1.heap.size + 1) ks ks [] (.slice none 0 0) :=
    ⟨F2.grown hg3 (by simp), (hg3.block _ (by omega) (by simp)).trans B2, (hg3.block _ (by omega) (by simp)).trans R2, own_grown D2 hg3 (fun g _ => by simp), ⟨by simp [i64s], .inl ⟨rfl, rfl⟩⟩, hi3, by simp⟩
  have HI := Lib.hid I3
  clear I3 hi3 hg3 hs3 M1 F2 B2 R2 D2 S2 z0 hks f1
  have HS2 : w.heap.size + 1 + 1 ≤ w1.heap.size := s1
  generalize w1.heap.size = s2 at *
  go_frame
  go_loopw [] (fun wr => ∃ tk dk bv, PlainInv w wr n (.slice pd xs.length cd) xs (w.heap.size + 1) s2 m (s2 + 1) ks tk dk bv) (fun wr => leftIn wr (s2 + 1) m)
  case atStart => exact ⟨ks, [], _, HI.out⟩
  case round =>
    obtain ⟨tk, dk, bv, I⟩ := hrel
    have II := Lib.hid I
    have hI := I.iter
    have hleft := I.iter.left
    have hrow := I.row
    have hblk := I.blk
    have hsz := blk_lt I.blk
    clear I
    obtain ⟨pb, cb, rfl⟩ := own_form hrow
    by_cases h0 : tk = []
    · subst h0
      have hp : dk.Perm ks := by simpa using II.out.perm
      have hdl : dk.length < 4611686018427387904 := by have := hp.length_eq; omega
      have KEY := Lib.hid (sortI_calls wr w.heap.size 3 pb cb dk hrow hdl)
      have c2 : wr.cell? ⟨s2, 2, none⟩ = some (.slice pb dk.length cb) := cell_of hblk rfl
      have zz : Hid (∀ w3, wr.grownBy w3 (Value.slice pb dk.length cb).ownBlock → w3.heap[s2]? = some (.cells #[.string n, .slice pd xs.length cd, .slice pb dk.length cb] 78 (0, 0)) ∧
          w3.heap[w.heap.size + 1]? = some (.cells #[.string ⟨#[]⟩, .slice none 0 0, .slice none 0 0] 78 (0, 0)) ∧ w3.ownsRow w.heap.size 5 1 (.slice pd xs.length cd) xs.length (u8s xs)) := by
        intro w3 hg
        exact ⟨(hg.block _ hsz (own_ne_cells hrow hblk (by decide))).trans hblk, (hg.block _ (blk_lt II.out.res) (own_ne_cells hrow II.out.res (by decide))).trans II.out.res, own_grown II.out.data hg (own_ne_own II.out.data hrow (by decide))⟩
      clear hblk
      go_wp2_with (first
        | (at_next; refine wpl_next _ rfl _ rfl rfl hI (fun h0 => ?_) (fun y vv todo' w1 hp hi1 hg1 hs1 hen => absurd hp.length_eq (by simp [ent])))
        | (go_at_call 139; refine KEY.out.mono ?_; rintro e w3 ⟨rfl, hr3, hg3⟩; obtain ⟨k1, k2, k3⟩ := zz.out w3 hg3; have a0 := cell_of (i := 0) k1 rfl; have a1 := cell_of (i := 1) k1 rfl; have a2 := cell_of (i := 2) k1 rfl; have r0 := cell_of (i := 0) k2 rfl; have r1 := cell_of (i := 1) k2 rfl; have r2 := cell_of (i := 2) k2 rfl; have q0 := frozen_of (i := 0) k2; have q1 := frozen_of (i := 1) k2; have q2 := frozen_of (i := 2) k2; have HR3 := Lib.hid (And.intro hr3 (And.intro hg3 (And.intro k2 k3))); clear hr3 hg3 k1 k2 k3))
      obtain ⟨hr3, hg3, k2, k3⟩ := HR3.out
      have kf : ((((w3.setCell ⟨w.heap.size + 1, 0, none⟩ (.string n)).setCell ⟨w.heap.size + 1, 1, none⟩ (.slice pd xs.length cd)).setCell ⟨w.heap.size + 1, 2, none⟩ (.slice pb dk.length cb))).heap[w.heap.size + 1]? = some (.cells #[.string n, .slice pd xs.length cd, .slice pb dk.length cb] 78 (0, 0)) := blk_set (blk_set (blk_set k2))
      have y0 := cell_of (i := 0) kf rfl
      have y1 := cell_of (i := 1) kf rfl
      have y2 := cell_of (i := 2) kf rfl
      have e := hfin.out dk hp
      have el : (numbers S M).length = dk.length := by rw [← e]; simp
      refine bodyPost_ret (v := .agg #[.string n, .slice pd xs.length cd, .slice pb dk.length cb]) (by simp [results, Tryz.results91, go_sem, y0, y1, y2]) rfl ⟨_, _, rfl, ?_, ?_, ?_⟩
      · refine ownsRow.same k3 fun g hg => ?_
        have hne : g ≠ w.heap.size + 1 := fun e1 => own_ne_cells k3 k2 (by decide) (by rw [← e1]; exact hg.symm)
        rw [blk_set_ne hne, blk_set_ne hne, blk_set_ne hne]
      · rw [el, ← e]
        refine ownsRow.same hr3 fun g hg => ?_
        have hne : g ≠ w.heap.size + 1 := fun e1 => own_ne_cells hr3 k2 (by decide) (by rw [← e1]; exact hg.symm)
        rw [blk_set_ne hne, blk_set_ne hne, blk_set_ne hne]
      · exact (((II.out.frm.grown hg3 (fun k e hk => by have := own_low hrow e; omega)).setCell _ _ (fun h => absurd h (by simp))).setCell _ _ (fun h => absurd h (by simp))).setCell _ _ (fun h => absurd h (by simp))
    · have hlt : dk.length < ks.length := by
        have := II.out.perm.length_eq
        have h2 : 0 < tk.length := List.length_pos_iff.2 h0
        simp at this; omega
      have hn1 : dk.length + 1 ≤ maxLen := by omega
      have hb1 : (dk.length + 1) * 8 ≤ 140737488355328 := by omega
      have hne := own_ne_iter hrow hI
      have hwr : w.heap.size ≤ wr.heap.size := II.out.frm.size
      have hnb : some s2 ≠ (Value.slice pb dk.length cb).ownBlock := own_ne_cells hrow hblk (by decide)
      go_wp2_with (first
        | (at_next; refine wpl_next _ rfl _ rfl rfl hI (fun h0x => absurd (List.map_eq_nil_iff.1 h0x) h0) (fun y vv todo' w1' hp hi1 hg1 hs1 hen => ?_); obtain ⟨rfl, tk', rfl, hp'⟩ := ent_perm hp; have HP' := Lib.hid hp'; have hrow1 := own_grown hrow hg1 (fun g hg => by rw [← hg]; exact fun e => hne.1 e.symm); have hsz1 := hg1.size; have hblk1 := (hg1.block s2 hsz (fun e => by have := Option.some.inj e; omega)).trans hblk; have c2 : w1'.cell? ⟨s2, 2, none⟩ = some (.slice pb dk.length cb) := cell_of hblk1 rfl; clear hp hp' hs1)
        | (at_builtin; refine wpList_append_own_at _ rfl _ _ _ rfl w.heap.size 3 i0 _ 1 8 Tryz.underlying76 hi0 hz0 hz1 hz2 rfl (by omega) _ dk.length _ rfl (hrow1.alloc _) ⟨w1'.heap.size, 0, none⟩ 1 1 [.int .i64 y] rfl rfl (World.news_of_block (cs := #[.int .i64 y]) (t := 3) (fr := (0, 0)) (heap_alloc_new w1' _)) (by simp [Value.oneCell']) hn1 hb1 (by simp; omega) ?_; intro v2 w2 hown2 hg2 hnil2 hat2; have hblk2 := (hg2.block s2 (by simp; omega) hnb).trans ((blk_alloc_lt (by omega)).trans hblk1); have c3 : w2.cell? ⟨s2, 2, none⟩ = some (.slice pb dk.length cb) := cell_of hblk2 rfl; have c4 : w2.frozen? ⟨s2, 2, none⟩ = false := frozen_of hblk2; obtain ⟨p2, c2', rfl⟩ := own_form hown2))
      have itl : s2 + 1 < w1'.heap.size := by obtain ⟨es, cl, sn, _, hh, _⟩ := hi1; exact blk_lt hh
      have ml : m < w1'.heap.size := by obtain ⟨es, cl, sn, hh, _⟩ := hi1; exact blk_lt hh
      have hms : m ≠ s2 := by
        rintro rfl
        obtain ⟨es, cl, sn, hh, _⟩ := hi1
        rw [hh] at hblk1; cases hblk1
      have hres1 := (hg1.block _ (blk_lt II.out.res) (fun e => by have := Option.some.inj e; omega)).trans II.out.res
      have hres2 := (hg2.block (w.heap.size + 1) (by have := blk_lt hres1; simp; omega) (own_ne_cells hrow1 hres1 (by decide))).trans ((blk_alloc_lt (blk_lt hres1)).trans hres1)
      have hdat1 := own_grown II.out.data hg1 (fun g hg => fun e => by
        have e2 := Option.some.inj e
        rcases II.out.data.2 with ⟨h2, _⟩ | ⟨b, cap, cur, hv, _, hb, _⟩
        · rw [h2] at hg; simp [Value.ownBlock] at hg
        · rw [hv] at hg
          have : b = g := by simpa [Value.ownBlock] using hg
          obtain ⟨es, cl, sn, _, hh, _⟩ := hI
          rw [this, e2, hh] at hb; cases hb)
      have hdat2 := own_grown (hdat1.alloc (.cells #[.int .i64 y] 3)) hg2 (own_ne_own hdat1 hrow1 (by decide))
      have hi2 : IterAt (Value.int .i64) (w2.setCell ⟨s2, 2, none⟩ (.slice p2 (dk.length + 1) c2')) (s2 + 1) m (ent ks) (ent tk') := by
        refine hi1.of_block ?_ ?_
        · rw [blk_set_ne hms]; exact (hg2.block m (by simp; omega) hne.2).trans (blk_alloc_lt ml)
        · rw [blk_set_ne (by omega)]; exact (hg2.block (s2 + 1) (by simp; omega) hne.1).trans (blk_alloc_lt itl)
      refine ⟨⟨tk', dk ++ [y], .slice p2 (dk.length + 1) c2', ⟨?_, ?_, ?_, ?_, ?_, hi2, ?_⟩⟩, ?_⟩
      · refine Frm.setCell (((II.out.frm.grown hg1 (fun k e hk => by have := Option.some.inj e; have := HS2; omega)).alloc _).grown hg2 (fun k e hk => by have := own_low hrow e; omega)) _ _ (fun h => absurd h (by simp; omega))
      · exact blk_set hblk2
      · rw [blk_set_ne (by omega)]; exact hres2
      · refine ownsRow.same hdat2 fun g hg => ?_
        rw [blk_set_ne (fun e1 => own_ne_cells hdat2 hblk2 (by decide) (by rw [← e1]; exact hg.symm))]
      · have hr : w2.ownsRow w.heap.size 3 1 (.slice p2 (dk.length + 1) c2') (dk ++ [y]).length (i64s (dk ++ [y])) := by simpa [i64s] using hown2
        refine ownsRow.same hr fun g hg => ?_
        rw [blk_set_ne (fun e1 => own_ne_cells hr hblk2 (by decide) (by rw [← e1]; exact hg.symm))]
      · refine List.Perm.trans ?_ II.out.perm
        refine List.Perm.trans ?_ (HP'.out.symm.append_right dk)
        rw [← List.append_assoc]
        exact List.perm_append_singleton y (tk' ++ dk)
      · rw [hi2.left, hleft]
        have := HP'.out.length_eq
        simp [ent] at this ⊢
        omega
end Go.Proofs.YtkmmlfphcfcbgaaGreatDoor.Dw

/- Walks: span; the pure steps of fated. -/
namespace Go.Proofs.YtkmmlfphcfcbgaaGreatDoor.Dm
theorem setSector_len {seen : List Int} {k : Nat} {fate : Int} {s : Side} (h : s.data.length ≤ seen.length) (hk : k * 512 < seen.length) : (setSector seen k fate s).data.length = if fate = 0 then s.data.length else max s.data.length (min ((k + 1) * 512) seen.length) := by
  by_cases hf : fate = 0
  · rw [hf, setSector_zero, if_pos rfl]
  · rw [if_neg hf, setSector_data (L := s.data.length) (g := fun i => s.data.getD i 0) (range_self _).symm h hk (fun i hi _ _ => by rw [List.getD_eq_getElem?_getD, List.getElem?_eq_none hi]; rfl) hf]
    simp
theorem fatedBy_len {seen : List Int} : ∀ (l : List (Nat × Int)) (s : Side), s.data.length ≤ seen.length → (∀ p, p ∈ l → p.1 * 512 < seen.length) → (fatedBy seen l s).data.length ≤ seen.length
  | [], s, h, _ => h
  | p :: l, s, h, hl => by
    refine fatedBy_len l _ ?_ (fun q hq => hl q (List.mem_cons_of_mem _ hq))
    have := setSector_len (fate := p.2) h (hl p List.mem_cons_self)
    have := hl p List.mem_cons_self
    rw [setSector_len h this]
    split <;> omega
theorem fatedBy_snoc (seen : List Int) : ∀ (l : List (Nat × Int)) (p : Nat × Int) (s : Side), fatedBy seen (l ++ [p]) s = setSector seen p.1 p.2 (fatedBy seen l s)
  | [], p, s => rfl
  | q :: l, p, s => by
    simp only [List.cons_append, fatedBy]
    exact fatedBy_snoc seen l p _
/-- Behind the first c fates. -/
def fatedTo (f : FileS) (fates : List Int) (c : Nat) : Side := fatedBy f.seen (((waitList f).zip fates).take c) ⟨f.safe, f.badSafe⟩
theorem fatedTo_zero (f : FileS) (fates : List Int) : fatedTo f fates 0 = ⟨f.safe, f.badSafe⟩ := rfl
theorem fatedTo_all (f : FileS) (fates : List Int) (h : fates.length = (waitList f).length) : fatedTo f fates (waitList f).length = f.fated fates := by
  unfold fatedTo FileS.fated
  rw [List.take_of_length_le (by simp; omega)]
theorem fatedTo_succ (f : FileS) (fates : List Int) (c : Nat) (h1 : c < (waitList f).length) (h2 : c < fates.length) : fatedTo f fates (c + 1) = setSector f.seen (waitList f)[c] fates[c] (fatedTo f fates c) := by
  unfold fatedTo
  rw [List.take_succ_eq_append_getElem (by simp; omega), fatedBy_snoc]
  simp
theorem fatedTo_len {f : FileS} (hs : f.safe.length ≤ f.seen.length) (fates : List Int) (c : Nat) : (fatedTo f fates c).data.length ≤ f.seen.length := by
  refine fatedBy_len _ _ hs fun p hp => ?_
  have := (waitList_mem.1 (zip_mem (List.mem_of_mem_take hp))).1
  rwa [sectors_lt] at this
theorem waitList_get {f : FileS} {c : Nat} (h : c < (waitList f).length) : (waitList f)[c] * 512 < f.seen.length := by
  have := (waitList_mem.1 (List.getElem_mem h)).1
  rwa [sectors_lt] at this
theorem setSector_walk {seen : List Int} {k fr T : Nat} {fate : Int} {s : Side} {d1 d2 : List Int} (hf : fate ≠ 0) (hfr : k * 512 = fr) (hT : min ((k + 1) * 512) seen.length = T) (hs : s.data.length ≤ seen.length) (hd1 : d1 = s.data ++ List.replicate (T - s.data.length) 0)
    (hd2 : d2 = d1.take fr ++ List.replicate (T - fr) 0 ++ d1.drop T) :
    setSector seen k fate s = if fate = 1 then ⟨d2.take fr ++ (seen.take T).drop fr ++ d2.drop T, fun j => s.bad j && !decide (j = k)⟩ else ⟨d2, fun j => s.bad j || decide (j = k)⟩ := by
  have he : min ((k + 1) * 512) d1.length = T := by rw [hd1]; simp; omega
  unfold setSector
  simp only [if_neg hf, hT, ← hd1, he, hfr, ← hd2]
end Go.Proofs.YtkmmlfphcfcbgaaGreatDoor.Dm
namespace Go.Proofs.YtkmmlfphcfcbgaaGreatDoor.Dw
open Go.RowKit Go.ChangeMaps Go.Proofs.YtkmmlfphcfcbgaaGreatDoor.Mp Go.Proofs.YtkmmlfphcfcbgaaGreatDoor.Dm Go.Proofs.YtkmmlfphcfcbgaaGreatDoor.Da
set_option linter.unusedVariables false
set_option linter.unusedSimpArgs false
set_option linter.unusedSectionVars false
set_option maxRecDepth 100000 in
theorem span_calls (k n : Nat) (hk : k ≤ 8796093022208) (hn : n ≤ 8796093022208) (w : World) :
    Calls Tryz.prog 78 #[.int .i64 k, .int .i64 n] w fun e w' => e = .returned (.tuple #[.int .i64 ((k * 512 : Nat) : Int), .int .i64 ((min ((k + 1) * 512) n : Nat) : Int)]) ∧ w' = w := by
  have e1 : ((k * 512 : Nat) : Int) = (k : Int) * 512 := by omega
  have e2 : ((min ((k + 1) * 512) n : Nat) : Int) = min (((k : Int) + 1) * 512) (n : Int) := by omega
  have E := Lib.hid (And.intro e1 e2)
  clear e1 e2
  go_enter Tryz.func78, Tryz.ntmps78
  go_wp2
  go_ret2
  exact ⟨by rw [E.out.1, E.out.2]; rfl, rfl⟩
theorem span_any (k n fr T : Nat) (hk : k ≤ 8796093022208) (hn : n ≤ 8796093022208) (hfr : k * 512 = fr) (hT : min ((k + 1) * 512) n = T) (w : World) :
    Calls Tryz.prog 78 #[.int .i64 k, .int .i64 n] w fun e w' => e = .returned (.tuple #[.int .i64 fr, .int .i64 T]) ∧ w' = w := by
  subst hfr
  subst hT
  exact span_calls k n hk hn w
theorem add_off (g o j : Nat) : (⟨g, o, none⟩ : Addr).add j = ⟨g, o + j, none⟩ := by unfold Addr.add; split <;> simp_all
theorem row_shape {w : World} {base : Nat} {e : TypeId} {size n : Nat} {v : Value} {xs : List Value} (h : w.ownsRow base e size v n xs) (hn : 0 < n) : ∃ g c, v = .slice (some ⟨g, 0, none⟩) n c ∧ n ≤ c ∧ base ≤ g ∧ g < w.heap.size := by
  rcases h.2 with ⟨_, h2⟩ | ⟨g, cap, cur, hv, hb, hh, h1, _⟩
  · omega
  · exact ⟨g, cap, hv, h1, hb, blk_lt hh⟩
theorem own_frm {w w' : World} {base : Nat} {e : TypeId} {size n : Nat} {v : Value} {xs : List Value} (h : w.ownsRow base e size v n xs) (hf : Frm (fun _ => False) w w') : w'.ownsRow base e size v n xs :=
  ownsRow.same h fun g hg => hf.block g (own_low h hg).2 id
end Go.Proofs.YtkmmlfphcfcbgaaGreatDoor.Dw

/- Walks: one block. -/
namespace Go.Proofs.YtkmmlfphcfcbgaaGreatDoor.Dw
open Go.RowKit Go.ChangeMaps Go.Proofs.YtkmmlfphcfcbgaaGreatDoor.Mp Go.Proofs.YtkmmlfphcfcbgaaGreatDoor.Dm Go.Proofs.YtkmmlfphcfcbgaaGreatDoor.Da
open Go.Proofs.YtkmmlfphcfcbgaaGreatDoorW.PrintWords (Kd ReadsInt own_weaken)
set_option linter.unusedVariables false
set_option linter.unusedSimpArgs false
set_option linter.unusedSectionVars false
/-- What a put answers. -/
def Puts (w : World) (xs : List Int) (L n x : Nat) (e : Ending) (w' : World) : Prop :=
  e = .returned (.slice (some ⟨w.heap.size, 0, none⟩) (L + n) (L + n)) ∧ w'.ownsRow w.heap.size 5 1 (.slice (some ⟨w.heap.size, 0, none⟩) (L + n) (L + n)) (L + n) (u8s (xs ++ Sg.le n x)) ∧ Frm (fun _ => False) w w'
set_option maxRecDepth 100000 in
theorem putU16_calls (w : World) (xs : List Int) (L : Nat) (hL : xs.length = L) (p : Option Addr) (cc : Nat) (hx : ReadsInt w .u8 p xs.length xs) (x : Nat) (hx2 : x < 65536) (hl : L ≤ 70368744177664) :
    Calls Tryz.prog 140 #[.slice p L cc, .int .u16 x] w (Puts w xs L 2 x) := by
  have K : Hid (Calls Tryz.prog 162 #[.slice p L cc, .int .u64 x, .int .i64 2] w (Puts w xs L 2 x)) := Lib.hid (put_calls_ w xs L hL p cc hx x 2 (by omega) (by decide) hl)
  clear hx hL
  go_enter Tryz.func140, Tryz.ntmps140
  go_wp2_with (first | (go_at_call 162; (with_reducible refine K.out.mono ?_); rintro e w' ⟨rfl, h2⟩))
  go_ret
  exact ⟨rfl, h2⟩
set_option maxRecDepth 100000 in
theorem putU32_calls (w : World) (xs : List Int) (L : Nat) (hL : xs.length = L) (p : Option Addr) (cc : Nat) (hx : ReadsInt w .u8 p xs.length xs) (x : Nat) (hx2 : x < 4294967296) (hl : L ≤ 70368744177664) :
    Calls Tryz.prog 115 #[.slice p L cc, .int .u32 x] w (Puts w xs L 4 x) := by
  have K : Hid (Calls Tryz.prog 162 #[.slice p L cc, .int .u64 x, .int .i64 4] w (Puts w xs L 4 x)) := Lib.hid (put_calls_ w xs L hL p cc hx x 4 (by omega) (by decide) hl)
  clear hx hL
  go_enter Tryz.func115, Tryz.ntmps115
  go_wp2_with (first | (go_at_call 162; (with_reducible refine K.out.mono ?_); rintro e w' ⟨rfl, h2⟩))
  go_ret
  exact ⟨rfl, h2⟩
set_option maxRecDepth 100000 in
theorem putU64_calls (w : World) (xs : List Int) (L : Nat) (hL : xs.length = L) (p : Option Addr) (cc : Nat) (hx : ReadsInt w .u8 p xs.length xs) (x : Nat) (hx2 : x < 18446744073709551616) (hl : L ≤ 70368744177664) :
    Calls Tryz.prog 114 #[.slice p L cc, .int .u64 x] w (Puts w xs L 8 x) := by
  have K : Hid (Calls Tryz.prog 162 #[.slice p L cc, .int .u64 x, .int .i64 8] w (Puts w xs L 8 x)) := Lib.hid (put_calls_ w xs L hL p cc hx x 8 (by omega) (by decide) hl)
  clear hx hL
  go_enter Tryz.func114, Tryz.ntmps114
  go_wp2_with (first | (go_at_call 162; (with_reducible refine K.out.mono ?_); rintro e w' ⟨rfl, h2⟩))
  go_ret
  exact ⟨rfl, h2⟩
set_option maxRecDepth 100000 in
theorem numbers_calls (w : World) (first n : Nat) (hf : first < 18446744073709551616) (hn : 1 ≤ n) (hn2 : n ≤ 4611686018427387904) :
    Calls Tryz.prog 95 #[.int .u64 first, .int .i64 n] w fun e w' => e = .returned (.bool (decide (Sg.numbers first n))) ∧ w' = w := by
  by_cases h1 : first < 1
  · have hd : decide (Sg.numbers first n) = false := decide_eq_false (fun h => by have := h.1; omega)
    have h1I : ¬ (1 : Int) ≤ (first : Int) := by omega
    rw [hd]
    clear h1 hd
    go_enter Tryz.func95, Tryz.ntmps95
    go_wp2
    go_ret
    exact ⟨rfl, rfl⟩
  · have h1I : (1 : Int) ≤ (first : Int) := by omega
    by_cases h2 : 4611686018427387904 < first
    · have hd : decide (Sg.numbers first n) = false := decide_eq_false (fun h => by have := h.2.2; omega)
      have h2I : ¬ (first : Int) ≤ (4611686018427387904 : Int) := by omega
      rw [hd]
      clear h1 h2 hd
      go_enter Tryz.func95, Tryz.ntmps95
      go_wp2
      go_ret
      exact ⟨rfl, rfl⟩
    · have h2I : (first : Int) ≤ (4611686018427387904 : Int) := by omega
      have hd : decide (Sg.numbers first n) = decide ((n : Int) - 1 ≤ 4611686018427387904 - (first : Int)) := by
        rw [decide_eq_decide]
        unfold Sg.numbers
        omega
      have hd2 := Lib.hid hd
      clear h1 h2 hd
      go_enter Tryz.func95, Tryz.ntmps95
      go_wp2
      go_ret
      exact ⟨by rw [hd2.out]; rfl, rfl⟩
/-- '[]byte("..")' of a constant: its row is marked behind its end. -/
theorem convMark {W : World} {g n c : Nat} {cs : Array Value} (hg : W.heap[g]? = some (.cells cs 5 (0, 0))) : ∃ W', (convert 36 36 (.slice (some ⟨g, 0, none⟩) n c)).run Tryz.prog W = .ok (.slice (some ⟨g, 0, none⟩) n c) W' ∧ Frm (fun k => k = g) W W' ∧ W'.heap.size = W.heap.size ∧ ∀ i, W'.cell? ⟨g, i, none⟩ = cs[i]? := by
  have hsh : W.shape? g = some (5, cs.size) := by unfold World.shape?; rw [hg]
  refine ⟨W.freeze ⟨g, cs.size, none⟩ 1, ?_, ?_, ?_, fun i => ?_⟩
  · simp [convert, run_underlying Tryz.underlying36, run_underlying Tryz.underlying5, markStringish, hsh]
  all_goals
    unfold World.freeze
    rw [if_neg (by decide)]
  · refine ⟨rfl, rfl, rfl, by simp, fun k hk hne => ?_⟩
    simp only [Array.getElem?_modify]
    rw [if_neg (fun e => hne e.symm)]
  · simp
  · simp [World.cell?, Array.getElem?_modify, hg]
/-- Bytes of a row of one's own are read. -/
theorem own_reads {w : World} {base : Nat} {p : Option Addr} {L c : Nat} {xs : List Int} (h : w.ownsRow base 5 1 (.slice p L c) L (u8s xs)) (hl : xs.length = L) (hL : L ≤ 9223372036854775807) : ReadsInt w .u8 p xs.length xs := by
  rcases h.2 with ⟨hv, he⟩ | ⟨g, cap, cur, hv, hg, hh, h1, h2, h3, h4⟩
  · refine ⟨rfl, by omega, fun h0 => absurd h0 (by omega)⟩
  · simp only [Value.slice.injEq] at hv
    obtain ⟨rfl, _, rfl⟩ := hv
    refine reads_mk (by omega) fun i hi => ?_
    rw [Nat.zero_add]
    refine cell_of hh ?_
    have e : (cur.toList.take (L * 1))[i]? = (u8s xs)[i]? := by rw [h4]
    rw [List.getElem?_take_of_lt (by omega), Array.getElem?_toList] at e
    rw [e, u8s, List.getElem?_map, List.getElem?_eq_getElem hi, List.getD_eq_getElem?_getD, List.getElem?_eq_getElem hi]
    rfl
theorem own_rebase {w : World} {base : Nat} {e : TypeId} {size n : Nat} {v : Value} {xs : List Value} (h : w.ownsRow 0 e size v n xs) (hb : ∀ g, v.ownBlock = some g → base ≤ g) : w.ownsRow base e size v n xs := by
  refine ⟨h.1, ?_⟩
  rcases h.2 with h2 | ⟨g, cap, cur, hv, _, r⟩
  · exact .inl h2
  · exact .inr ⟨g, cap, cur, hv, hb g (by rw [hv]; rfl), r⟩
section
variable {w : World} {ops : Array Oper} {rest : List Oper} {o : Oper} {a : Act} {Q : Exit → Act → World → Prop}
/-- Bytes behind a row of one's own, lengths by name. -/
theorem wpl_append_bytesN (hgd : o.guard = none) (s x : Operand) (ho : o.op = .call { callee := .builtin .append, args := #[s, x], argTypes := #[36, 36] })
    {v : Value} {xs : List Int} {base n m N : Nat} (hs : a.eval s = v) (hown : w.ownsRow base 5 1 v n (u8s xs)) (hn : xs.length = n) {xv : Value} {ys : List Int} (hx : a.eval x = xv) (hy : FromAt w xv ys) (hm : ys.length = m) (hN : n + m = N) (hlen : N ≤ 140737488355328) (hb : base ≤ w.heap.size)
    (h : ∀ p c w', w'.ownsRow base 5 1 (.slice p N c) N (u8s (xs ++ ys)) → w.grownBy w' v.ownBlock → wpList Tryz.prog ops Q rest (a.put o.dst (.slice p N c)) w') :
    wpList Tryz.prog ops Q (o :: rest) a w := by
  subst hn hm hN
  refine wpl_append_bytes hgd s x ho hs (own_weaken hown (Nat.zero_le _)) hx hy (by simpa using hlen) fun p c w' h1 h2 h3 => ?_
  refine h p c w' ?_ h2
  rw [List.length_append] at h1
  refine own_rebase h1 fun g hg => ?_
  rcases h3 with h3 | h3
  · rw [h3] at hg
    exact (own_low hown hg).1
  · exact Nat.le_trans hb (h3 g hg).1
end
theorem spot_none {w : World} {a : Addr} {v : Value} (h : w.cell? a = some v) : a.spot = none := by
  unfold World.cell? at h
  split at h
  · split at h
    · cases h
    · rename_i hs
      cases hc : a.spot with
      | none => rfl
      | some n => rw [hc] at hs; simp at hs
  · cases h
theorem fromReads {w : World} {p : Option Addr} {n c : Nat} {xs : List Int} (h : ReadsInt w .u8 p xs.length xs) (hn : xs.length = n) : FromAt w (.slice p n c) xs := by
  subst hn
  by_cases h0 : xs = []
  · subst h0; exact .inr (.inr ⟨p, c, rfl, rfl⟩)
  · obtain ⟨a, rfl, hc⟩ := h.2.2 (List.length_pos_iff.2 h0)
    have hs := spot_none (w := w) (a := a) (by have := hc 0 (List.length_pos_iff.2 h0); rwa [show a.add 0 = a by unfold Addr.add; simp] at this)
    obtain ⟨g, o, pt⟩ := a
    cases hs
    refine .inr (.inl ⟨g, o, c, rfl, fun j u hu => ?_⟩)
    rw [u8s, List.getElem?_map] at hu
    obtain ⟨y, hy, rfl⟩ := Option.map_eq_some_iff.1 hu
    have hj := (List.getElem?_eq_some_iff.1 hy).1
    have := hc j hj
    rw [addO, List.getD_eq_getElem?_getD, hy] at this
    exact this
theorem room_snoc (rs : List Sg.Bytes) (r : Sg.Bytes) : Sg.room (rs ++ [r]) = Sg.room rs + (2 + r.length) := by
  simp [Sg.room, Sg.body, Sg.le_length]
theorem body_snoc (rs : List Sg.Bytes) (r : Sg.Bytes) : Sg.body (rs ++ [r]) = Sg.body rs ++ (Sg.le 2 r.length ++ r) := by simp [Sg.body]
theorem room_take_le (rs : List Sg.Bytes) (j : Nat) : Sg.room (rs.take j) ≤ Sg.room rs := by
  have : Sg.body rs = Sg.body (rs.take j) ++ Sg.body (rs.drop j) := by
    unfold Sg.body
    rw [← List.flatMap_append, List.take_append_drop]
  unfold Sg.room
  rw [this, List.length_append]; omega
/-- copy(v[off:], ys), by itself. -/
theorem copy_run {W : World} {base g n cap off dLen dCap sCap sl q : Nat} {xs ys : List Int} (hrow : W.ownsRow base 5 1 (.slice (some ⟨g, 0, none⟩) n cap) n (u8s xs)) (hn : xs.length = n) (hs : ReadsInt W .u8 (some ⟨q, 0, none⟩) ys.length ys) (hsl : ys.length = sl) (hle : sl ≤ dLen) (hoff : off + sl ≤ n) :
    ∃ R : Array Value, (∀ W' : World, W'.heap = W.heap → (Builtin.copy_ #[36, 36] 3 #[.slice (some ⟨g, off, none⟩) dLen dCap, .slice (some ⟨q, 0, none⟩) sl sCap]).run Tryz.prog W' = .ok (.int .i64 sl) (W'.setRow g R)) ∧
      ∀ W' : World, W'.heap = W.heap → (W'.setRow g R).ownsRow base 5 1 (.slice (some ⟨g, 0, none⟩) n cap) n (u8s (xs.take off ++ ys ++ xs.drop (off + ys.length))) ∧ Frm (fun k => k = g) W' (W'.setRow g R) := by
  subst hsl
  rcases hrow.2 with ⟨hv, _⟩ | ⟨g', cap', cur, hv, hb, hh, h1, h2, h3, h4⟩
  · cases hv
  · simp only [Value.slice.injEq, Option.some.injEq, Addr.mk.injEq, true_and, and_true] at hv
    obtain ⟨rfl, rfl⟩ := hv
    have hl : (u8s ys).length = ys.length := by simp [u8s]
    have hsz : (Tryz.prog.info? 5).map (·.size) = some 1 := by kernel_rfl
    have hsrc : ∀ W' : World, W'.heap = W.heap → ∀ j v, (u8s ys)[j]? = some v → W'.cell? ((⟨q, 0, none⟩ : Addr).add j) = some v := fun W' hW j u hu => by
      rw [u8s, List.getElem?_map] at hu
      obtain ⟨y, hy, rfl⟩ := Option.map_eq_some_iff.1 hu
      have hj := (List.getElem?_eq_some_iff.1 hy).1
      obtain ⟨a, ha, hc⟩ := hs.2.2 (by omega)
      cases ha
      have := hc j hj
      rw [List.getD_eq_getElem?_getD, hy] at this
      unfold World.cell? at this ⊢
      rw [hW]; exact this
    refine ⟨(cur.toList.take off ++ u8s ys ++ cur.toList.drop (off + (u8s ys).length)).toArray, fun W' hW => ?_, fun W' hW => ?_⟩
    · have hrun := run_copy_row (P := Tryz.prog) W' 36 36 3 5 g off dLen dCap ⟨q, 0, none⟩ ys.length sCap cur 5 (u8s ys) Tryz.underlying36 hsz (by rw [hW]; exact hh) (by rw [hl]; exact (Nat.min_eq_left hle).symm) (hsrc W' hW) (by rw [hl, h3]; omega) mem_oneCell
      rw [hrun, hl]
      rfl
    · have hh' : W'.heap[g]? = some (.cells cur 5 (0, 0)) := by rw [hW]; exact hh
      rw [hl]
      refine ⟨⟨?_, .inr ⟨g, cap, _, rfl, hb, setRow_heap W' g _ _ _ _ hh', h1, h2, ?_, ?_⟩⟩, ⟨rfl, rfl, rfl, by simp [World.setRow], fun k _ hk => setRow_other W' g k _ hk⟩⟩
      · simp only [u8s, List.length_map, List.length_append, List.length_take, List.length_drop]; omega
      · simp only [List.size_toArray, List.length_append, List.length_take, List.length_drop, Array.length_toList, hl, h3]; omega
      · rw [Nat.mul_one] at h4 ⊢
        have e5 : cur.toList.take off = (u8s xs).take off := by rw [← h4, List.take_take, Nat.min_eq_left (by omega)]
        have e6 : (cur.toList.drop (off + ys.length)).take (n - (off + ys.length)) = (u8s xs).drop (off + ys.length) := by rw [← h4, List.drop_take]
        rw [e5]
        have e7 : (u8s (xs.take off ++ ys ++ xs.drop (off + ys.length))) = (u8s xs).take off ++ u8s ys ++ (u8s xs).drop (off + ys.length) := by simp [u8s, List.map_take, List.map_drop]
        rw [e7, ← e6]
        have hl2 : ((u8s xs).take off ++ u8s ys).length = off + ys.length := by simp [u8s]; omega
        rw [List.take_append, hl2, List.take_of_length_le (by omega)]
/-- The head of a block whose sum isn't there yet. -/
def head18 (first n : Nat) : List Int := Sg.magic ++ Sg.le 8 first ++ Sg.le 2 n ++ Sg.le 4 0
theorem head18_length (first n : Nat) : (head18 first n).length = 18 := by simp [head18, Sg.magic, Sg.le_length]
theorem fill_zero {first : Nat} {rs : List Sg.Bytes} (h : Sg.room rs ≤ 494) {L : Nat} (hL : L = 18 + Sg.room rs) : head18 first rs.length ++ Sg.body rs ++ List.replicate (512 - L) 0 = Sg.fill first rs 0 := by
  unfold head18 Sg.fill Sg.zeros
  rw [show 512 - L = 494 - Sg.room rs by omega]
  simp [List.append_assoc]
theorem blk_fill {first : Nat} {rs : List Sg.Bytes} (s : Nat) : (Sg.fill first rs 0).take 14 ++ Sg.le 4 s ++ (Sg.fill first rs 0).drop 18 = Sg.fill first rs s := by
  rw [Sg.fill_take14, Sg.fill_drop18]
  simp [Sg.fill, List.append_assoc]
set_option maxHeartbeats 2000000 in
set_option maxRecDepth 100000 in
theorem encode_calls {B : Nat} {w : World} (h : CrcAt B w) (first : Nat) (A : Option Addr) (c : Nat) (rs : List Sg.Bytes) (hx : RecsAt w A rs) (hn : Sg.numbers first rs.length) (hc : rs.length ≤ c) (hr : ∀ r, r ∈ rs → r.length ≤ 200) (hroom : Sg.room rs ≤ 494) (hb : ∀ r, r ∈ rs → ∀ x, x ∈ r → 0 ≤ x ∧ x < 256) :
    Calls Tryz.prog 96 #[.int .u64 first, .slice A rs.length c] w fun e w' => ∃ g cap, e = .returned (.tuple #[.slice (some ⟨g, 0, none⟩) 512 cap, .nilIface]) ∧ w'.ownsRow w.heap.size 5 1 (.slice (some ⟨g, 0, none⟩) 512 cap) 512 (u8s (Sg.blk Sg.crc first rs)) ∧ Frm (fun _ => False) w w' := by
  have hcnt := Sg.room_count rs
  have hN1 : 1 ≤ rs.length := hn.2.1
  have hf64 : first < 18446744073709551616 := by have := hn.2.2; omega
  have KN : Hid (Calls Tryz.prog 95 #[.int .u64 first, .int .i64 rs.length] w fun e w' => e = .returned (.bool true) ∧ w' = w) := by
    have := numbers_calls w first rs.length hf64 hN1 (by omega)
    rw [decide_eq_true hn] at this
    exact Lib.hid this
  have HX := Lib.hid hx
  have HC := Lib.hid h
  have HB := Lib.hid hb
  have HR := Lib.hid (And.intro hr (And.intro hroom hn))
  obtain ⟨N, hN⟩ : ∃ N, N = rs.length := ⟨_, rfl⟩
  have HN := Lib.hid hN
  rw [← hN] at KN hc hcnt hN1 ⊢
  have hN0 : ¬ (N : Int) = 0 := by omega
  have hN494 : N ≤ 247 := by omega
  clear hx h hb hr hroom hn hN hcnt
  go_enter Tryz.func96, Tryz.ntmps96
  go_wp2_with (first
    | (go_at_call 95; (with_reducible refine KN.out.mono ?_); rintro e w ⟨rfl, rfl⟩))
  go_loopw [6, 25] (fun x v wr => ∃ j : Nat, v = .int .i64 (j : Nat) ∧ j ≤ N ∧ x = .int .i64 (Sg.room (rs.take j) : Nat) ∧ w = wr) (fun _ v _ => N - (intOf v).toNat)
  case atStart => exact ⟨0, rfl, Nat.zero_le _, rfl, rfl⟩
  case round =>
    obtain ⟨j, rfl, hj, rfl, rfl⟩ := hrel
    by_cases hlt : j < N
    · obtain ⟨a, p, cc, rfl, hca, hcc, hrd⟩ := HX.out j (by have := HN.out; omega)
      have hr1 := HR.out.1 _ (List.getElem_mem (l := rs) (n := j) (by have := HN.out; omega))
      have hnx : Hid (Sg.room (rs.take (j + 1)) = Sg.room (rs.take j) + (2 + (rs[j]'(by have := HN.out; omega)).length)) := by
        show _ = _
        rw [List.take_add_one, List.getElem?_eq_getElem (by have := HN.out; omega), Option.toList_some, room_snoc]
      have hle : Sg.room (rs.take j) + (2 + (rs[j]'(by have := HN.out; omega)).length) ≤ 494 := by
        rw [← hnx.out]; exact Nat.le_trans (room_take_le _ _) HR.out.2.1
      generalize Sg.room (rs.take j) = R at *
      generalize (rs[j]'(by have := HN.out; omega)).length = q at *
      clear hrd
      have hqI : ¬ (200 : Int) < (q : Int) := by omega
      have hRI : ¬ (494 : Int) < (R : Int) + (2 + (q : Int)) := by omega
      go_wp2
      exact ⟨⟨j + 1, by go_num, by omega, by rw [hnx.out]; simp, by trivial⟩, by simp [intOf]; omega⟩
    · obtain rfl : j = N := by omega
      clear hj hlt
      obtain ⟨W2, hcv, hf2, hs2, hc2⟩ := convMark (W := w.alloc (.cells #[.int .u8 84, .int .u8 66, .int .u8 48, .int .u8 49] 5)) (n := 4) (c := 4) blk_alloc
      have F2 : Frm (fun _ => False) w W2 := ((Frm.refl (fun _ => False) w).alloc _).trans hf2 (fun i hi hg => by omega)
      have r2 : ReadsInt W2 .u8 (some ⟨w.heap.size, 0, none⟩) 4 Sg.magic := reads_mk (by decide) fun i hi => by
        rw [Nat.zero_add, hc2]
        match i, hi with
        | 0, _ => rfl
        | 1, _ => rfl
        | 2, _ => rfl
        | 3, _ => rfl
      have K1 := Lib.hid (putU64_calls W2 Sg.magic 4 rfl (some ⟨w.heap.size, 0, none⟩) 4 r2 first hf64 (by decide))
      have HF2 := Lib.hid F2
      clear hf2 hs2 hc2 F2 r2
      have HR' := HR
      generalize Sg.room (rs.take j) = R at *
      have l1 : (Sg.magic ++ Sg.le 8 first).length = 12 := by simp [Sg.magic, Sg.le_length]
      have l2 : (Sg.magic ++ Sg.le 8 first ++ Sg.le 2 j).length = 14 := by simp [Sg.magic, Sg.le_length]
      have HLL := Lib.hid (And.intro l1 l2)
      clear l1 l2
      go_wp2_with (first
        | (go_at_call 114; (with_reducible refine K1.out.mono ?_); rintro e w3 ⟨rfl, hr3, hf3⟩; have K2 := Lib.hid (putU16_calls w3 (Sg.magic ++ Sg.le 8 first) 12 HLL.out.1 _ 12 (own_reads (L := 12) hr3 HLL.out.1 (by decide)) j (by omega) (by decide)); have F3 := Lib.hid (HF2.out.trans hf3 (fun _ _ h => h)); clear hr3 hf3)
        | (go_at_call 140; (with_reducible refine K2.out.mono ?_); rintro e w4 ⟨rfl, hr4, hf4⟩; have K3 : Hid (Calls Tryz.prog 115 #[.slice (some ⟨w3.heap.size, 0, none⟩) 14 14, .int .u32 0] w4 (Puts w4 (Sg.magic ++ Sg.le 8 first ++ Sg.le 2 j) 14 4 0)) := Lib.hid (putU32_calls w4 (Sg.magic ++ Sg.le 8 first ++ Sg.le 2 j) 14 HLL.out.2 _ 14 (own_reads (L := 14) hr4 HLL.out.2 (by decide)) 0 (by decide) (by decide)); have F4 := Lib.hid (F3.out.trans hf4 (fun _ _ h => h)); clear hr4 hf4)
        | (go_at_call 115; (with_reducible refine K3.out.mono ?_); rintro e w5 ⟨rfl, hr5, hf5⟩; have F5 := Lib.hid (And.intro hr5 (And.intro (F4.out.trans hf5 (fun _ _ h => h)) F4.out.size)); clear hr5 hf5))
      obtain ⟨hr5, hf5, hs5⟩ := F5.out
      have hb5 : w.heap.size ≤ w4.heap.size := hs5
      have hr5' : w5.ownsRow w.heap.size 5 1 (.slice (some ⟨w4.heap.size, 0, none⟩) 18 18) 18 (u8s (head18 first j)) := by
        have := own_weaken hr5 hb5
        exact this
      have H5 := Lib.hid (And.intro hr5' hf5)
      clear hr5 hf5 hs5 hr5' F5 F4 F3 HF2 K1 K2 K3 HLL HR'
      go_loopw [9, 54] (fun v iv wr => ∃ (i L : Nat) (p : Option Addr) (cc : Nat), iv = .int .i64 (i : Nat) ∧ i ≤ j ∧ L = 18 + Sg.room (rs.take i) ∧ v = .slice p L cc ∧ wr.ownsRow w.heap.size 5 1 v L (u8s (head18 first j ++ Sg.body (rs.take i))) ∧ Frm (fun _ => False) w wr) (fun _ iv _ => j - (intOf iv).toNat)
      case atStart =>
        refine ⟨0, 18, _, _, rfl, Nat.zero_le _, rfl, rfl, ?_, H5.out.2⟩
        rw [List.take_zero, Sg.body_nil, List.append_nil]; exact H5.out.1
      case round =>
        obtain ⟨i, L, p, cc, rfl, hi, hL, rfl, hrow, hfr⟩ := hrel
        have HF := Lib.hid hfr
        by_cases hlt : i < j
        · obtain ⟨a, pr, c2, rfl, hca, hcc, hrd⟩ := (HX.out.frm HF.out) i (by have := HN.out; omega)
          have hrm : rs[i]'(by have := HN.out; omega) ∈ rs := List.getElem_mem _
          have hq2 := HR.out.1 _ hrm
          have hnx : Hid (Sg.room (rs.take (i + 1)) = Sg.room (rs.take i) + (2 + (rs[i]'(by have := HN.out; omega)).length) ∧ Sg.body (rs.take (i + 1)) = Sg.body (rs.take i) ++ (Sg.le 2 (rs[i]'(by have := HN.out; omega)).length ++ rs[i]'(by have := HN.out; omega))) := by
            refine Lib.hid ?_
            rw [List.take_add_one, List.getElem?_eq_getElem (by have := HN.out; omega), Option.toList_some, room_snoc, body_snoc]
            exact ⟨rfl, rfl⟩
          have hle : Sg.room (rs.take (i + 1)) ≤ 494 := Nat.le_trans (room_take_le _ _) HR.out.2.1
          have HBL : Hid ((head18 first j ++ Sg.body (rs.take i)).length = L) := by
            refine Lib.hid ?_
            rw [List.length_append, head18_length, hL]; rfl
          have hL494 : L ≤ 512 := by have := hnx.out.1; omega
          have hi2 : Hid (L + 2 + (rs[i]'(by have := HN.out; omega)).length = 18 + Sg.room (rs.take (i + 1))) := by refine Lib.hid ?_; have := hnx.out.1; omega
          have HL := Lib.hid hL
          generalize hrr : rs[i]'(by have := HN.out; omega) = r at *
          obtain ⟨q, hq⟩ : ∃ q, q = r.length := ⟨_, rfl⟩
          have HQ := Lib.hid hq
          rw [← hq] at hca hcc hq2
          have K4 := Lib.hid (putU16_calls wr (head18 first j ++ Sg.body (rs.take i)) L HBL.out p cc (own_reads (L := L) hrow HBL.out (by omega)) q (by omega) (by omega))
          have hfrom := Lib.hid (fun W (hW : Frm (fun _ => False) wr W) => fromReads (c := c2) (reads_frm hrd hW) HQ.out.symm)
          have hwr := HF.out.size
          have hq20 : q ≤ 200 := hq2
          clear hL hrow hrd hq hrr hrm hq2 hfr H5
          go_wp2_with (first
            | (go_at_call 140; (with_reducible refine K4.out.mono ?_); rintro e w6 ⟨rfl, hr6, hf6⟩; have H6 := Lib.hid (And.intro hr6 hf6); have hs6 := hf6.size; clear hr6 hf6)
            | (at_builtin; refine wpl_append_bytesN rfl _ _ rfl (N := L + 2 + q) rfl H6.out.1 (by rw [List.length_append, HBL.out, Sg.le_length]) rfl (hfrom.out _ H6.out.2) HQ.out.symm rfl (by omega) hs6 ?_; intro p7 c7 w7 hr7 hg7; have H7 := Lib.hid (And.intro hr7 hg7); clear hr7 hg7))
          refine ⟨⟨i + 1, L + 2 + q, p7, c7, by go_num, by omega, by rw [HQ.out]; exact hi2.out, rfl, ?_, ?_⟩, by simp [intOf]; omega⟩
          · have h7 := own_weaken H7.out.1 (Nat.le_trans HF.out.size (Nat.le_refl _))
            rw [hnx.out.2, ← HQ.out]
            simpa [List.append_assoc] using h7
          · have hg7 : w6.grownBy w7 (some wr.heap.size) := H7.out.2
            exact (HF.out.trans H6.out.2 (fun _ _ h => h)).grown hg7 (fun k e hk => by have := Option.some.inj e; omega)
        · obtain rfl : i = j := by omega
          have hRL : Sg.room (rs.take i) = Sg.room rs := by rw [HN.out, List.take_length]
          have hBL : Sg.body (rs.take i) = Sg.body rs := by rw [HN.out, List.take_length]
          rw [hRL] at hL
          rw [hBL] at hrow
          have h4 := HR.out.2.1
          have hll : (head18 first i ++ Sg.body rs).length = L := by rw [List.length_append, head18_length, hL]; rfl
          have hz : ((512 - L : Nat) : Int) = 512 - (L : Int) := by omega
          have HZ := Lib.hid hz
          have HLL := Lib.hid hll
          have hL5 : L ≤ 512 := by omega
          have HROW := Lib.hid hrow
          have HL := Lib.hid hL
          have hwr := hfr.size
          have hrow2 : wr.ownsRow w.heap.size 5 1 (.slice p L cc) (head18 first i ++ Sg.body rs).length (u8s (head18 first i ++ Sg.body rs)) := by rw [hll]; exact hrow
          have HROW2 := Lib.hid hrow2
          clear hRL hBL hrow hL h4 hll hz hlt hi H5 hfr hrow2
          go_upto_region 21 with (first
            | (at_builtin; refine wpl_append_zeros rfl _ _ rfl (n := 512 - L) rfl (by show Value.int .i64 (512 - (L : Int)) = _; rw [← HZ.out]) HROW2.out (by rw [HLL.out]; omega) hwr ?_; intro v8 w8 hr8 hg8; have H8 := Lib.hid (And.intro hr8 hg8); clear hr8 hg8))
          have h512 : (head18 first i ++ Sg.body rs ++ List.replicate (512 - L) 0).length = 512 := by rw [List.length_append, HLL.out, List.length_replicate]; omega
          have hfe : head18 first i ++ Sg.body rs ++ List.replicate (512 - L) 0 = Sg.fill first rs 0 := by rw [HN.out]; exact fill_zero HR.out.2.1 HL.out
          obtain ⟨hr8, hg8⟩ := H8.out
          rw [h512, hfe] at hr8
          have hf8 : Frm (fun _ => False) w w8 := by
            have h1 : wr.grownBy w8 (Value.slice p L cc).ownBlock := hg8
            exact HF.out.grown h1 (fun k e hk => by have := (own_low HROW.out e).1; omega)
          obtain ⟨g8, c8, rfl, hc8, hb8, hg8l⟩ := row_shape hr8 (by decide)
          have hfl : (Sg.fill first rs 0).length = 512 := by rw [← hfe]; exact h512
          have hby : ∀ x, x ∈ Sg.fill first rs 0 → 0 ≤ x ∧ x < 256 := fun x hx => Sg.blk_byte (fun _ => 0) HB.out hx
          have KS : Hid (∀ W', Frm (fun _ => False) w8 W' → Calls Tryz.prog 141 #[.slice (some ⟨g8, 0, none⟩) 512 c8] W' fun e w' => e = .returned (.int .u32 (Sg.crc (Sg.fill first rs 0) : Nat)) ∧ Frm (fun _ => False) w8 w') := by
            refine Lib.hid fun W' hW => ?_
            have hrd := reads_frm (own_reads hr8 hfl (by decide)) hW
            have K := blockSum_calls ((HC.out.frm hf8 (fun _ h => h.elim)).frm hW (fun _ h => h.elim)) g8 0 c8 _ hrd hfl hc8 hby
            rw [Sg.unsummed_fill] at K
            exact K.mono (by rintro e w' ⟨he, hf⟩; exact ⟨he, hW.trans hf (fun _ _ h => h)⟩)
          have hsl := Sg.crc_lt (Sg.fill first rs 0)
          have hblk : Sg.blk Sg.crc first rs = Sg.fill first rs (Sg.crc (Sg.fill first rs 0)) := rfl
          have HBLK := Lib.hid hblk
          clear hblk
          generalize hs : Sg.crc (Sg.fill first rs 0) = s at *
          clear hs
          have KP : Hid (∀ W', Frm (fun _ => False) w8 W' → Calls Tryz.prog 115 #[.slice none 0 0, .int .u32 s] W' fun e w' => ∃ q0, e = .returned (.slice (some ⟨q0, 0, none⟩) 4 4) ∧ ReadsInt w' .u8 (some ⟨q0, 0, none⟩) 4 (Sg.le 4 s) ∧ Frm (fun _ => False) w8 w') := by
            refine Lib.hid fun W' hW => ?_
            refine (putU32_calls W' [] 0 rfl none 0 ⟨rfl, by decide, fun h0 => absurd h0 (by decide)⟩ s hsl (by decide)).mono ?_
            rintro e w' ⟨he, hr, hf⟩
            have := own_reads (L := 4) hr (by rw [List.nil_append, Sg.le_length]) (by decide)
            rw [List.nil_append, Sg.le_length] at this
            exact ⟨_, he, this, hW.trans hf (fun _ _ h => h)⟩
          have HFIN := Lib.hid (And.intro hr8 (And.intro hf8 hfl))
          have hc8I : (512 : Int) ≤ (c8 : Int) := by omega
          have hc14 : ¬ c8 = 14 := by omega
          have h498 : (512 : Int) - 14 = 498 := by decide
          clear hr8 hf8 hfl hby hg8 H8 h512 hfe HF HR HX HC HB hsl HROW HROW2
          go_region_held3 (fun w' => True) (first | trivial | go_keep)
            (first
              | (go_at_call 141; (with_reducible refine (KS.out _ (by first | exact Frm.refl _ _ | exact (Frm.refl _ _).drew | exact (Frm.refl _ _).drew.drew)).mono ?_); rintro e w9 ⟨rfl, f9⟩; have HX9 := Lib.hid f9; clear f9)
              | (go_at_call 115; (with_reducible refine (KP.out _ (by first | exact HX9.out | exact HX9.out.drew | exact HX9.out.drew.drew)).mono ?_); rintro e w10 ⟨q0, rfl, r10, f10⟩
                 obtain ⟨R, hc1, hc2⟩ := copy_run (W := w10) (off := 14) (dLen := 498) (dCap := c8 - 14) (sCap := 4) (own_frm HFIN.out.1 f10) HFIN.out.2.2 (by rw [Sg.le_length]; exact r10) (Sg.le_length _ _) (by decide) (by decide)
                 have k0 := hc1 w10 rfl
                 have k1 := hc1 w10.drew rfl
                 have k2 := hc1 w10.drew.drew rfl
                 have HX10 := Lib.hid (And.intro f10 hc2)
                 clear f10 r10 hc1 hc2))
          all_goals
            have hlast : ∀ W' : World, W'.heap = w10.heap → (W'.setRow g8 R).ownsRow w.heap.size 5 1 (.slice (some ⟨g8, 0, none⟩) 512 c8) 512 (u8s (Sg.blk Sg.crc first rs)) := fun W' hW => by
              have := (HX10.out.2 W' hW).1
              rw [Sg.le_length, blk_fill, ← HBLK.out] at this
              exact this
            have hfr : ∀ W' : World, W'.heap = w10.heap → Frm (fun k => k = g8) W' (W'.setRow g8 R) := fun W' hW => (HX10.out.2 W' hW).2
            have hf10 : Frm (fun _ => False) w w10 := HFIN.out.2.1.trans HX10.out.1 (fun _ _ h => h)
            have HE := Lib.hid (And.intro hlast (And.intro hfr hf10))
            clear hlast hfr hf10 k0 k1 k2
            go_wp2
            go_ret2
            refine ⟨g8, c8, rfl, HE.out.1 _ rfl, ?_⟩
            first
              | exact HE.out.2.2.trans (HE.out.2.1 w10 rfl) (fun i hi e => by omega)
              | exact (HE.out.2.2.drew).trans (HE.out.2.1 w10.drew rfl) (fun i hi e => by omega)
              | exact (HE.out.2.2.drew.drew).trans (HE.out.2.1 w10.drew.drew rfl) (fun i hi e => by omega)
end Go.Proofs.YtkmmlfphcfcbgaaGreatDoor.Dw
