/- A part of the proof of diskDown_holds: Eg, Ej0, Dk. No condition. -/
import Derived.Test.YtglhedahannjiaaGreatDoorC08

/- Walks: plain. -/
namespace Go.Proofs.YtglhedahannjiaaGreatDoor.Dw
open Go.RowKit Go.ChangeMaps Go.Proofs.YtglhedahannjiaaGreatDoor.Mp Go.Proofs.YtglhedahannjiaaGreatDoor.Dm Go.Proofs.YtglhedahannjiaaGreatDoor.Da
set_option linter.unusedVariables false
set_option linter.unusedSimpArgs false
set_option linter.unusedSectionVars false
/-- Bytes that lie in memory, in whole. -/
def Lies (w : World) (v : Value) (xs : List Int) : Prop := (v = .slice none 0 0 ∧ xs = []) ∨ ∃ b off c, v = .slice (some ⟨b, off, none⟩) xs.length c ∧ ∀ j u, (u8s xs)[j]? = some u → w.cell? ⟨b, off + j, none⟩ = some u
theorem Lies.frm {w w1 : World} {v : Value} {xs : List Int} (h : Lies w v xs) (hf : Frm (fun _ => False) w w1) : Lies w1 v xs := by
  rcases h with h | ⟨b, off, c, e, hc⟩
  · exact .inl h
  · refine .inr ⟨b, off, c, e, fun j u hu => ?_⟩
    rw [← hc j u hu]
    exact hf.cell (World.block_lt_of_cell? w _ (hc j u hu)) id
/-- In plain's loop: s2: the file's cells, s1: the result's. -/
structure PlainInv (w wr : World) (n : Name) (dv : Value) (xs : List Int) (s1 s2 m it : Nat) (ks tk dk : List Int) (bv : Value) : Prop where
  frm : Frm (fun _ => False) w wr
  blk : wr.heap[s2]? = some (.cells #[.string n, dv, bv] 41 (0, 0))
  res : wr.heap[s1]? = some (.cells #[.string ⟨#[]⟩, .slice none 0 0, .slice none 0 0] 41 (0, 0))
  data : wr.ownsRow w.heap.size 5 1 dv xs.length (u8s xs)
  row : wr.ownsRow w.heap.size 3 1 bv dk.length (i64s dk)
  iter : IterAt (Value.int .i64) wr it m (ent ks) (ent tk)
  perm : (tk ++ dk).Perm ks
theorem own_weaken_ {w : World} {base base' : Nat} {e : TypeId} {size n : Nat} {v : Value} {xs : List Value} (h : w.ownsRow base e size v n xs) (hb : base' ≤ base) : w.ownsRow base' e size v n xs := by
  refine ⟨h.1, ?_⟩
  rcases h.2 with h2 | ⟨g, cap, cur, hv, hg, r⟩
  · exact .inl h2
  · exact .inr ⟨g, cap, cur, hv, Nat.le_trans hb hg, r⟩
theorem own_ne_cells {w : World} {base : Nat} {e t : TypeId} {size n g : Nat} {v : Value} {xs : List Value} {cs : Array Value} (h : w.ownsRow base e size v n xs) (hg : w.heap[g]? = some (.cells cs t (0, 0))) (hne : e ≠ t) : some g ≠ v.ownBlock := by
  rcases h.2 with ⟨rfl, _⟩ | ⟨b, cap, cur, rfl, _, hb, _⟩
  · simp [Value.ownBlock]
  · intro e1
    have : g = b := by simpa [Value.ownBlock] using e1
    subst this; rw [hg] at hb; cases hb; exact hne rfl
theorem own_ne_own {w : World} {b1 b2 : Nat} {e1 e2 : TypeId} {z1 z2 n1 n2 : Nat} {v1 v2 : Value} {xs1 xs2 : List Value} (h1 : w.ownsRow b1 e1 z1 v1 n1 xs1) (h2 : w.ownsRow b2 e2 z2 v2 n2 xs2) (hne : e1 ≠ e2) : ∀ g, v1.ownBlock = some g → some g ≠ v2.ownBlock := by
  intro g hg
  rcases h1.2 with ⟨rfl, _⟩ | ⟨b, cap, cur, rfl, _, hb, _⟩
  · simp [Value.ownBlock] at hg
  · have : b = g := by simpa [Value.ownBlock] using hg
    subst this
    exact own_ne_cells h2 hb (Ne.symm hne)
set_option maxHeartbeats 1000000 in
set_option maxRecDepth 100000 in
theorem plain_calls {w : World} (n : Name) (v : Value) (xs : List Int) (m : Nat) (S : Nat → Bool) (hv : Lies w v xs) (hS : SetAt w m S) (hM : ∀ k, S k = true → k < sectors xs.length) (hn : xs.length ≤ 4398046511104) :
    Calls Tryz.prog 68 #[.string n, .agg #[v, .map (some m)]] w fun e w' => ∃ dv bv, e = .returned (.agg #[.string n, dv, bv]) ∧ w'.ownsRow w.heap.size 5 1 dv xs.length (u8s xs) ∧
      w'.ownsRow w.heap.size 3 1 bv (numbers S (sectors xs.length)).length (i64s (numbers S (sectors xs.length))) ∧ Frm (fun _ => False) w w' := by
  obtain ⟨i0, hi0, hz0, hz1, hz2⟩ := info_parts intInfo
  obtain ⟨ks, hks, hnd, hmem⟩ := hS
  change MapAt (Value.int .i64) w m (ent ks) at hks
  have hMl : sectors xs.length ≤ 4398046511104 := by unfold sectors; omega
  generalize hMe : sectors xs.length = M at *
  have hlen : ks.length ≤ M := by
    have e := sorted_set (List.Perm.refl ks) hnd hmem hM
    have h1 : (ks.mergeSort leI).length = ks.length := by simp
    rw [← h1, e]
    unfold numbers
    simp only [List.length_map]
    exact Nat.le_trans (List.length_filter_le _ _) (by simp)
  have hfin : Hid (∀ dk : List Int, dk.Perm ks → dk.mergeSort leI = numbers S M) := fun dk hp => sorted_set hp hnd hmem hM
  have hmx : maxLen = 9223372036854775807 := by decide
  have hml := hks.lt
  have KEY : Hid (∀ W, Frm (fun _ => False) w W → Calls Tryz.prog 69 #[v] W fun e w' => ∃ v', e = .returned v' ∧ w'.ownsRow W.heap.size 5 1 v' xs.length (u8s xs) ∧ Below W.heap.size W w') := fun W hf =>
    (cloneB_calls v xs W (hv.frm hf) (by omega)).mono fun e w' ⟨v', h1, h2, h3, _⟩ => ⟨v', h1, h2, h3⟩
  have hvf : ∃ p k c, v = .slice p k c := by
    rcases hv with ⟨h1, _⟩ | ⟨b, off, c, h1, _⟩
    · exact ⟨_, _, _, h1⟩
    · exact ⟨_, _, _, h1⟩
  obtain ⟨p0, k0, c0, rfl⟩ := hvf
  have HL := Lib.hid hMe
  clear hmem hM hnd hv hMe
  go_enter Tryz.func68, Tryz.ntmps68
  go_wp2_with fail
  refine (KEY.out _ (((Frm.refl _ _).alloc _).alloc _)).mono ?_
  rintro e w1 ⟨dv, rfl, hd, hb1⟩
  have f1 : Frm (fun _ => False) w w1 := (((Frm.refl (fun _ => False) w).alloc _).alloc _).trans (Frm.of_below hb1 _) (fun _ _ h => h)
  have s1 := hb1.size
  obtain ⟨pd, cd, rfl⟩ := own_form hd
  have b0 : w1.heap[w.heap.size]? = some (.cells #[.slice p0 k0 c0, .map (some m)] 102 (0, 0)) := (hb1.block _ (by simp; omega)).trans ((blk_alloc_lt (by simp)).trans blk_alloc)
  have b1 : w1.heap[w.heap.size + 1]? = some (.cells #[.string ⟨#[]⟩, .slice none 0 0, .slice none 0 0] 41 (0, 0)) := by
    refine (hb1.block _ (by simp)).trans ?_
    rw [show w.heap.size + 1 = (w.alloc (.cells #[.slice p0 k0 c0, .map (some m)] 102)).heap.size by simp only [World.size_alloc]]
    exact blk_alloc
  simp only [World.size_alloc] at s1
  have z0 : (w1.alloc (.cells #[.string n, .slice pd xs.length cd, .slice none 0 0] 41)).cell? ⟨w.heap.size, 1, none⟩ = some (.map (some m)) := cell_alloc (cell_of b0 rfl)
  have M1 : MapAt (Value.int .i64) (w1.alloc (.cells #[.string n, .slice pd xs.length cd, .slice none 0 0] 41)) m (ent ks) := hks.of_block ((blk_alloc_lt (by omega)).trans (f1.block m hml id))
  have F2 : Frm (fun _ => False) w (w1.alloc (.cells #[.string n, .slice pd xs.length cd, .slice none 0 0] 41)) := f1.alloc _
  have B2 : (w1.alloc (.cells #[.string n, .slice pd xs.length cd, .slice none 0 0] 41)).heap[w1.heap.size]? = some (.cells #[.string n, .slice pd xs.length cd, .slice none 0 0] 41 (0, 0)) := blk_alloc
  have R2 : (w1.alloc (.cells #[.string n, .slice pd xs.length cd, .slice none 0 0] 41)).heap[w.heap.size + 1]? = some (.cells #[.string ⟨#[]⟩, .slice none 0 0, .slice none 0 0] 41 (0, 0)) := (blk_alloc_lt (by omega)).trans b1
  have D2 : (w1.alloc (.cells #[.string n, .slice pd xs.length cd, .slice none 0 0] 41)).ownsRow w.heap.size 5 1 (.slice pd xs.length cd) xs.length (u8s xs) :=
    own_grown (own_weaken_ hd (by simp; omega)) (World.grownBy_alloc _ _ none) (fun g _ => by simp)
  have S2 : (w1.alloc (.cells #[.string n, .slice pd xs.length cd, .slice none 0 0] 41)).heap.size = w1.heap.size + 1 := by simp only [World.size_alloc]
  clear hd hb1 b0 b1
  go_wp2_with (first | (at_range; generalize w1.alloc (.cells #[.string n, .slice pd xs.length cd, .slice none 0 0] 41) = W2 at *; refine wpl_range _ rfl _ rfl Tryz.underlying100 rfl M1 ?_; intro W3 hi3 hg3 hs3; rw [S2] at hi3 hs3 ⊢))
  have I3 : PlainInv w W3 n (.slice pd xs.length cd) xs (w.heap.size + 1) w1.heap.size m (w1.heap.size + 1) ks ks [] (.slice none 0 0) :=
    ⟨F2.grown hg3 (by simp), (hg3.block _ (by omega) (by simp)).trans B2, (hg3.block _ (by omega) (by simp)).trans R2, own_grown D2 hg3 (fun g _ => by simp), ⟨by simp [i64s], .inl ⟨rfl, rfl⟩⟩, hi3, by simp⟩
  have HI := Lib.hid I3
  clear I3 hi3 hg3 hs3 M1 F2 B2 R2 D2 S2 z0 hks f1
  have HS2 : w.heap.size + 1 + 1 ≤ w1.heap.size := s1
  generalize w1.heap.size = s2 at *
  go_frame
  go_loopw [] (fun wr => ∃ tk dk bv, PlainInv w wr n (.slice pd xs.length cd) xs (w.heap.size + 1) s2 m (s2 + 1) ks tk dk bv) (fun wr => leftIn wr (s2 + 1) m)
  case atStart => exact ⟨ks, [], _, HI.out⟩
  case round =>
    obtain ⟨tk, dk, bv, I⟩ := hrel
    have II := Lib.hid I
    have hI := I.iter
    have hleft := I.iter.left
    have hrow := I.row
    have hblk := I.blk
    have hsz := blk_lt I.blk
    clear I
    obtain ⟨pb, cb, rfl⟩ := own_form hrow
    by_cases h0 : tk = []
    · subst h0
      have hp : dk.Perm ks := by simpa using II.out.perm
      have hdl : dk.length < 4611686018427387904 := by have := hp.length_eq; omega
      have KEY := Lib.hid (sortI_calls wr w.heap.size 3 pb cb dk hrow hdl)
      have c2 : wr.cell? ⟨s2, 2, none⟩ = some (.slice pb dk.length cb) := cell_of hblk rfl
      have zz : Hid (∀ w3, wr.grownBy w3 (Value.slice pb dk.length cb).ownBlock → w3.heap[s2]? = some (.cells #[.string n, .slice pd xs.length cd, .slice pb dk.length cb] 41 (0, 0)) ∧
          w3.heap[w.heap.size + 1]? = some (.cells #[.string ⟨#[]⟩, .slice none 0 0, .slice none 0 0] 41 (0, 0)) ∧ w3.ownsRow w.heap.size 5 1 (.slice pd xs.length cd) xs.length (u8s xs)) := by
        intro w3 hg
        exact ⟨(hg.block _ hsz (own_ne_cells hrow hblk (by decide))).trans hblk, (hg.block _ (blk_lt II.out.res) (own_ne_cells hrow II.out.res (by decide))).trans II.out.res, own_grown II.out.data hg (own_ne_own II.out.data hrow (by decide))⟩
      clear hblk
      go_wp2_with (first
        | (at_next; refine wpl_next _ rfl _ rfl rfl hI (fun h0 => ?_) (fun y vv todo' w1 hp hi1 hg1 hs1 hen => absurd hp.length_eq (by simp [ent])))
        | (go_at_call 105; refine KEY.out.mono ?_; rintro e w3 ⟨rfl, hr3, hg3⟩; obtain ⟨k1, k2, k3⟩ := zz.out w3 hg3; have a0 := cell_of (i := 0) k1 rfl; have a1 := cell_of (i := 1) k1 rfl; have a2 := cell_of (i := 2) k1 rfl; have r0 := cell_of (i := 0) k2 rfl; have r1 := cell_of (i := 1) k2 rfl; have r2 := cell_of (i := 2) k2 rfl; have q0 := frozen_of (i := 0) k2; have q1 := frozen_of (i := 1) k2; have q2 := frozen_of (i := 2) k2; have HR3 := Lib.hid (And.intro hr3 (And.intro hg3 (And.intro k2 k3))); clear hr3 hg3 k1 k2 k3))
      obtain ⟨hr3, hg3, k2, k3⟩ := HR3.out
      have kf : ((((w3.setCell ⟨w.heap.size + 1, 0, none⟩ (.string n)).setCell ⟨w.heap.size + 1, 1, none⟩ (.slice pd xs.length cd)).setCell ⟨w.heap.size + 1, 2, none⟩ (.slice pb dk.length cb))).heap[w.heap.size + 1]? = some (.cells #[.string n, .slice pd xs.length cd, .slice pb dk.length cb] 41 (0, 0)) := blk_set (blk_set (blk_set k2))
      have y0 := cell_of (i := 0) kf rfl
      have y1 := cell_of (i := 1) kf rfl
      have y2 := cell_of (i := 2) kf rfl
      have e := hfin.out dk hp
      have el : (numbers S M).length = dk.length := by rw [← e]; simp
      refine bodyPost_ret (v := .agg #[.string n, .slice pd xs.length cd, .slice pb dk.length cb]) (by simp [results, Tryz.results68, go_sem, y0, y1, y2]) rfl ⟨_, _, rfl, ?_, ?_, ?_⟩
      · refine ownsRow.same k3 fun g hg => ?_
        have hne : g ≠ w.heap.size + 1 := fun e1 => own_ne_cells k3 k2 (by decide) (by rw [← e1]; exact hg.symm)
        rw [blk_set_ne hne, blk_set_ne hne, blk_set_ne hne]
      · rw [el, ← e]
        refine ownsRow.same hr3 fun g hg => ?_
        have hne : g ≠ w.heap.size + 1 := fun e1 => own_ne_cells hr3 k2 (by decide) (by rw [← e1]; exact hg.symm)
        rw [blk_set_ne hne, blk_set_ne hne, blk_set_ne hne]
      · exact (((II.out.frm.grown hg3 (fun k e hk => by have := own_low hrow e; omega)).setCell _ _ (fun h => absurd h (by simp))).setCell _ _ (fun h => absurd h (by simp))).setCell _ _ (fun h => absurd h (by simp))
    · have hlt : dk.length < ks.length := by
        have := II.out.perm.length_eq
        have h2 : 0 < tk.length := List.length_pos_iff.2 h0
        simp at this; omega
      have hn1 : dk.length + 1 ≤ maxLen := by omega
      have hb1 : (dk.length + 1) * 8 ≤ 140737488355328 := by omega
      have hne := own_ne_iter hrow hI
      have hwr : w.heap.size ≤ wr.heap.size := II.out.frm.size
      have hnb : some s2 ≠ (Value.slice pb dk.length cb).ownBlock := own_ne_cells hrow hblk (by decide)
      go_wp2_with (first
        | (at_next; refine wpl_next _ rfl _ rfl rfl hI (fun h0x => absurd (List.map_eq_nil_iff.1 h0x) h0) (fun y vv todo' w1' hp hi1 hg1 hs1 hen => ?_); obtain ⟨rfl, tk', rfl, hp'⟩ := ent_perm hp; have HP' := Lib.hid hp'; have hrow1 := own_grown hrow hg1 (fun g hg => by rw [← hg]; exact fun e => hne.1 e.symm); have hsz1 := hg1.size; have hblk1 := (hg1.block s2 hsz (fun e => by have := Option.some.inj e; omega)).trans hblk; have c2 : w1'.cell? ⟨s2, 2, none⟩ = some (.slice pb dk.length cb) := cell_of hblk1 rfl; clear hp hp' hs1)
        | (at_builtin; refine wpList_append_own_at _ rfl _ _ _ rfl w.heap.size 3 i0 _ 1 8 Tryz.underlying23 hi0 hz0 hz1 hz2 rfl (by omega) _ dk.length _ rfl (hrow1.alloc _) ⟨w1'.heap.size, 0, none⟩ 1 1 [.int .i64 y] rfl rfl (World.news_of_block (cs := #[.int .i64 y]) (t := 3) (fr := (0, 0)) (heap_alloc_new w1' _)) (by simp [Value.oneCell']) hn1 hb1 (by simp; omega) ?_; intro v2 w2 hown2 hg2 hnil2 hat2; have hblk2 := (hg2.block s2 (by simp; omega) hnb).trans ((blk_alloc_lt (by omega)).trans hblk1); have c3 : w2.cell? ⟨s2, 2, none⟩ = some (.slice pb dk.length cb) := cell_of hblk2 rfl; have c4 : w2.frozen? ⟨s2, 2, none⟩ = false := frozen_of hblk2; obtain ⟨p2, c2', rfl⟩ := own_form hown2))
      have itl : s2 + 1 < w1'.heap.size := by obtain ⟨es, cl, sn, _, hh, _⟩ := hi1; exact blk_lt hh
      have ml : m < w1'.heap.size := by obtain ⟨es, cl, sn, hh, _⟩ := hi1; exact blk_lt hh
      have hms : m ≠ s2 := by
        rintro rfl
        obtain ⟨es, cl, sn, hh, _⟩ := hi1
        rw [hh] at hblk1; cases hblk1
      have hres1 := (hg1.block _ (blk_lt II.out.res) (fun e => by have := Option.some.inj e; omega)).trans II.out.res
      have hres2 := (hg2.block (w.heap.size + 1) (by have := blk_lt hres1; simp; omega) (own_ne_cells hrow1 hres1 (by decide))).trans ((blk_alloc_lt (blk_lt hres1)).trans hres1)
      have hdat1 := own_grown II.out.data hg1 (fun g hg => fun e => by
        have e2 := Option.some.inj e
        rcases II.out.data.2 with ⟨h2, _⟩ | ⟨b, cap, cur, hv, _, hb, _⟩
        · rw [h2] at hg; simp [Value.ownBlock] at hg
        · rw [hv] at hg
          have : b = g := by simpa [Value.ownBlock] using hg
          obtain ⟨es, cl, sn, _, hh, _⟩ := hI
          rw [this, e2, hh] at hb; cases hb)
      have hdat2 := own_grown (hdat1.alloc (.cells #[.int .i64 y] 3)) hg2 (own_ne_own hdat1 hrow1 (by decide))
      have hi2 : IterAt (Value.int .i64) (w2.setCell ⟨s2, 2, none⟩ (.slice p2 (dk.length + 1) c2')) (s2 + 1) m (ent ks) (ent tk') := by
        refine hi1.of_block ?_ ?_
        · rw [blk_set_ne hms]; exact (hg2.block m (by simp; omega) hne.2).trans (blk_alloc_lt ml)
        · rw [blk_set_ne (by omega)]; exact (hg2.block (s2 + 1) (by simp; omega) hne.1).trans (blk_alloc_lt itl)
      refine ⟨⟨tk', dk ++ [y], .slice p2 (dk.length + 1) c2', ⟨?_, ?_, ?_, ?_, ?_, hi2, ?_⟩⟩, ?_⟩
      · refine Frm.setCell (((II.out.frm.grown hg1 (fun k e hk => by have := Option.some.inj e; have := HS2; omega)).alloc _).grown hg2 (fun k e hk => by have := own_low hrow e; omega)) _ _ (fun h => absurd h (by simp; omega))
      · exact blk_set hblk2
      · rw [blk_set_ne (by omega)]; exact hres2
      · refine ownsRow.same hdat2 fun g hg => ?_
        rw [blk_set_ne (fun e1 => own_ne_cells hdat2 hblk2 (by decide) (by rw [← e1]; exact hg.symm))]
      · have hr : w2.ownsRow w.heap.size 3 1 (.slice p2 (dk.length + 1) c2') (dk ++ [y]).length (i64s (dk ++ [y])) := by simpa [i64s] using hown2
        refine ownsRow.same hr fun g hg => ?_
        rw [blk_set_ne (fun e1 => own_ne_cells hr hblk2 (by decide) (by rw [← e1]; exact hg.symm))]
      · refine List.Perm.trans ?_ II.out.perm
        refine List.Perm.trans ?_ (HP'.out.symm.append_right dk)
        rw [← List.append_assoc]
        exact List.perm_append_singleton y (tk' ++ dk)
      · rw [hi2.left, hleft]
        have := HP'.out.length_eq
        simp [ent] at this ⊢
        omega
end Go.Proofs.YtglhedahannjiaaGreatDoor.Dw

/- Walks: span; the pure steps of fated. -/
namespace Go.Proofs.YtglhedahannjiaaGreatDoor.Dm
theorem setSector_len {seen : List Int} {k : Nat} {fate : Int} {s : Side} (h : s.data.length ≤ seen.length) (hk : k * 512 < seen.length) : (setSector seen k fate s).data.length = if fate = 0 then s.data.length else max s.data.length (min ((k + 1) * 512) seen.length) := by
  by_cases hf : fate = 0
  · rw [hf, setSector_zero, if_pos rfl]
  · rw [if_neg hf, setSector_data (L := s.data.length) (g := fun i => s.data.getD i 0) (range_self _).symm h hk (fun i hi _ _ => by rw [List.getD_eq_getElem?_getD, List.getElem?_eq_none hi]; rfl) hf]
    simp
theorem fatedBy_len {seen : List Int} : ∀ (l : List (Nat × Int)) (s : Side), s.data.length ≤ seen.length → (∀ p, p ∈ l → p.1 * 512 < seen.length) → (fatedBy seen l s).data.length ≤ seen.length
  | [], s, h, _ => h
  | p :: l, s, h, hl => by
    refine fatedBy_len l _ ?_ (fun q hq => hl q (List.mem_cons_of_mem _ hq))
    have := setSector_len (fate := p.2) h (hl p List.mem_cons_self)
    have := hl p List.mem_cons_self
    rw [setSector_len h this]
    split <;> omega
theorem fatedBy_snoc (seen : List Int) : ∀ (l : List (Nat × Int)) (p : Nat × Int) (s : Side), fatedBy seen (l ++ [p]) s = setSector seen p.1 p.2 (fatedBy seen l s)
  | [], p, s => rfl
  | q :: l, p, s => by
    simp only [List.cons_append, fatedBy]
    exact fatedBy_snoc seen l p _
/-- Behind the first c fates. -/
def fatedTo (f : FileS) (fates : List Int) (c : Nat) : Side := fatedBy f.seen (((waitList f).zip fates).take c) ⟨f.safe, f.badSafe⟩
theorem fatedTo_zero (f : FileS) (fates : List Int) : fatedTo f fates 0 = ⟨f.safe, f.badSafe⟩ := rfl
theorem fatedTo_all (f : FileS) (fates : List Int) (h : fates.length = (waitList f).length) : fatedTo f fates (waitList f).length = f.fated fates := by
  unfold fatedTo FileS.fated
  rw [List.take_of_length_le (by simp; omega)]
theorem fatedTo_succ (f : FileS) (fates : List Int) (c : Nat) (h1 : c < (waitList f).length) (h2 : c < fates.length) : fatedTo f fates (c + 1) = setSector f.seen (waitList f)[c] fates[c] (fatedTo f fates c) := by
  unfold fatedTo
  rw [List.take_succ_eq_append_getElem (by simp; omega), fatedBy_snoc]
  simp
theorem fatedTo_len {f : FileS} (hs : f.safe.length ≤ f.seen.length) (fates : List Int) (c : Nat) : (fatedTo f fates c).data.length ≤ f.seen.length := by
  refine fatedBy_len _ _ hs fun p hp => ?_
  have := (waitList_mem.1 (zip_mem (List.mem_of_mem_take hp))).1
  rwa [sectors_lt] at this
theorem waitList_get {f : FileS} {c : Nat} (h : c < (waitList f).length) : (waitList f)[c] * 512 < f.seen.length := by
  have := (waitList_mem.1 (List.getElem_mem h)).1
  rwa [sectors_lt] at this
theorem setSector_walk {seen : List Int} {k fr T : Nat} {fate : Int} {s : Side} {d1 d2 : List Int} (hf : fate ≠ 0) (hfr : k * 512 = fr) (hT : min ((k + 1) * 512) seen.length = T) (hs : s.data.length ≤ seen.length) (hd1 : d1 = s.data ++ List.replicate (T - s.data.length) 0)
    (hd2 : d2 = d1.take fr ++ List.replicate (T - fr) 0 ++ d1.drop T) :
    setSector seen k fate s = if fate = 1 then ⟨d2.take fr ++ (seen.take T).drop fr ++ d2.drop T, fun j => s.bad j && !decide (j = k)⟩ else ⟨d2, fun j => s.bad j || decide (j = k)⟩ := by
  have he : min ((k + 1) * 512) d1.length = T := by rw [hd1]; simp; omega
  unfold setSector
  simp only [if_neg hf, hT, ← hd1, he, hfr, ← hd2]
end Go.Proofs.YtglhedahannjiaaGreatDoor.Dm
namespace Go.Proofs.YtglhedahannjiaaGreatDoor.Dw
open Go.RowKit Go.ChangeMaps Go.Proofs.YtglhedahannjiaaGreatDoor.Mp Go.Proofs.YtglhedahannjiaaGreatDoor.Dm Go.Proofs.YtglhedahannjiaaGreatDoor.Da
set_option linter.unusedVariables false
set_option linter.unusedSimpArgs false
set_option linter.unusedSectionVars false
set_option maxRecDepth 100000 in
theorem span_calls (k n : Nat) (hk : k ≤ 8796093022208) (hn : n ≤ 8796093022208) (w : World) :
    Calls Tryz.prog 71 #[.int .i64 k, .int .i64 n] w fun e w' => e = .returned (.tuple #[.int .i64 ((k * 512 : Nat) : Int), .int .i64 ((min ((k + 1) * 512) n : Nat) : Int)]) ∧ w' = w := by
  have e1 : ((k * 512 : Nat) : Int) = (k : Int) * 512 := by omega
  have e2 : ((min ((k + 1) * 512) n : Nat) : Int) = min (((k : Int) + 1) * 512) (n : Int) := by omega
  have E := Lib.hid (And.intro e1 e2)
  clear e1 e2
  go_enter Tryz.func71, Tryz.ntmps71
  go_wp2
  go_ret2
  exact ⟨by rw [E.out.1, E.out.2]; rfl, rfl⟩
theorem span_any (k n fr T : Nat) (hk : k ≤ 8796093022208) (hn : n ≤ 8796093022208) (hfr : k * 512 = fr) (hT : min ((k + 1) * 512) n = T) (w : World) :
    Calls Tryz.prog 71 #[.int .i64 k, .int .i64 n] w fun e w' => e = .returned (.tuple #[.int .i64 fr, .int .i64 T]) ∧ w' = w := by
  subst hfr
  subst hT
  exact span_calls k n hk hn w
theorem add_off (g o j : Nat) : (⟨g, o, none⟩ : Addr).add j = ⟨g, o + j, none⟩ := by unfold Addr.add; split <;> simp_all
theorem row_shape {w : World} {base : Nat} {e : TypeId} {size n : Nat} {v : Value} {xs : List Value} (h : w.ownsRow base e size v n xs) (hn : 0 < n) : ∃ g c, v = .slice (some ⟨g, 0, none⟩) n c ∧ n ≤ c ∧ base ≤ g ∧ g < w.heap.size := by
  rcases h.2 with ⟨_, h2⟩ | ⟨g, cap, cur, hv, hb, hh, h1, _⟩
  · omega
  · exact ⟨g, cap, hv, h1, hb, blk_lt hh⟩
theorem own_frm {w w' : World} {base : Nat} {e : TypeId} {size n : Nat} {v : Value} {xs : List Value} (h : w.ownsRow base e size v n xs) (hf : Frm (fun _ => False) w w') : w'.ownsRow base e size v n xs :=
  ownsRow.same h fun g hg => hf.block g (own_low h hg).2 id
end Go.Proofs.YtglhedahannjiaaGreatDoor.Dw

/- Walks: Sync's closures. -/
namespace Go.Proofs.YtglhedahannjiaaGreatDoor.Dw
open Go.RowKit Go.ChangeMaps Go.Proofs.YtglhedahannjiaaGreatDoor.Mp Go.Proofs.YtglhedahannjiaaGreatDoor.Dm Go.Proofs.YtglhedahannjiaaGreatDoor.Da
set_option linter.unusedVariables false
set_option linter.unusedSimpArgs false
set_option linter.unusedSectionVars false
set_option maxRecDepth 100000 in
theorem sync1 {B : Nat} {W : World} {b : Nat} {A : Adr} {lab : Nat → Option Lb} {D : Disk} {eb : Nat → Addr} {L : List Err} (h : DiskAt B W b A lab D) (he : ErrsAt B W eb L) (hw : WF D) (n : Name) (cd cn : Nat)
    (h1 : W.cell? ⟨cd, 0, none⟩ = some (dptr b)) (h2 : W.cell? ⟨cn, 0, none⟩ = some (.string n)) :
    Calls Tryz.prog 57 #[.pointer (some ⟨cd, 0, none⟩), .pointer (some ⟨cn, 0, none⟩)] W fun e W' =>
      e = .returned (.agg #[errV eb (D.gone n), .func (.func 58) #[] #[.pointer (some ⟨cd, 0, none⟩), .pointer (some ⟨cn, 0, none⟩)], .bool false, .nilFunc]) ∧ Frm (fun _ => False) W W' := by
  have n1 := World.block_lt_of_cell? W _ h1
  have n2 := World.block_lt_of_cell? W _ h2
  have key : ∀ o, Calls Tryz.prog 53 #[dptr b, .string n] (W.alloc o) fun e w' => e = .returned (errV eb (D.gone n)) ∧ w' = W.alloc o :=
    fun o => gone_calls (h.alloc o) (he.alloc o) hw.nowN n
  unfold dptr at h1 key
  have KEY := Lib.hid key
  clear key
  go_enter Tryz.func57, Tryz.ntmps57
  go_wp2_with fail
  refine (KEY.out _).mono ?_
  rintro e w' ⟨rfl, rfl⟩
  by_cases h0 : D.gone n = 0
  · rw [h0, errV_zero]
    go_wp2
    exact bodyPost_ret (v := .agg #[.nilIface, .func (.func 58) #[] #[.pointer (some ⟨cd, 0, none⟩), .pointer (some ⟨cn, 0, none⟩)], .bool false, .nilFunc]) (by simp [results, Tryz.results57, go_sem]) rfl ⟨by rw [h0, errV_zero], (by repeat (first | (with_reducible assumption) | (with_reducible exact Frm.refl _ _) | (with_reducible apply Frm.drewN) | (with_reducible apply Frm.drew) | (with_reducible apply Frm.alloc) | (with_reducible refine Frm.setCell ?_ _ _ (fun h => absurd h (by first | (simp; done) | (simp; omega))))))⟩
  · rw [errV_pos eb (D.gone n) h0]
    go_wp2
    exact bodyPost_ret (v := .agg #[.iface 228 (.pointer (some (eb (D.gone n)))), .func (.func 58) #[] #[.pointer (some ⟨cd, 0, none⟩), .pointer (some ⟨cn, 0, none⟩)], .bool false, .nilFunc]) (by simp [results, Tryz.results57, go_sem]) rfl ⟨by rw [errV_pos eb (D.gone n) h0], (by repeat (first | (with_reducible assumption) | (with_reducible exact Frm.refl _ _) | (with_reducible apply Frm.drewN) | (with_reducible apply Frm.drew) | (with_reducible apply Frm.alloc) | (with_reducible refine Frm.setCell ?_ _ _ (fun h => absurd h (by first | (simp; done) | (simp; omega))))))⟩
/-- A row of bytes, for a clone. -/
theorem RowAt.bytes {w : World} {lab : Nat → Option Lb} {p : Lb} {v : Value} {xs : List Int} (h : RowAt w lab p 5 1 v xs.length (u8s xs)) :
    (v = .slice none 0 0 ∧ xs = []) ∨ ∃ b off c, v = .slice (some ⟨b, off, none⟩) xs.length c ∧ ∀ j u, (u8s xs)[j]? = some u → w.cell? ⟨b, off + j, none⟩ = some u := by
  rcases h.cells with ⟨h1, h2⟩ | ⟨g, cap, h1, _, _, _, _, h2⟩
  · exact .inl ⟨h1, List.eq_nil_of_length_eq_zero h2⟩
  · refine .inr ⟨g, 0, cap, h1, fun j u hu => ?_⟩
    have hj : j < xs.length := by
      have := (List.getElem?_eq_some_iff.1 hu).1
      simpa [u8s] using this
    rw [Nat.zero_add, h2 j (by omega)]; exact hu
set_option maxHeartbeats 1000000 in
set_option maxRecDepth 100000 in
theorem sync11 {B : Nat} {W : World} {b : Nat} {A : Adr} {lab : Nat → Option Lb} {D : Disk} (h : DiskAt B W b A lab D) (hw : WF D) (n : Name) (hex : (find D.now n).isSome = true) (hlen : ∀ f, f ∈ D.files → f.seen.length ≤ 140737488355328) (cd cn : Nat) (h1 : Cap W lab cd (dptr b)) (h2 : Cap W lab cn (.string n)) :
    Calls Tryz.prog 58 #[.pointer (some ⟨cd, 0, none⟩), .pointer (some ⟨cn, 0, none⟩)] W fun e W' => e = .returned (.tuple #[]) ∧ Ext B b lab W W' (D.onFile n FileS.sync) := by
  have q1 := h1.1
  have q2 := h2.1
  obtain ⟨i, hi⟩ := Option.isSome_iff_exists.1 hex
  obtain ⟨f, hf⟩ := WF.file hw hi
  have hd : D.onFile n FileS.sync = D.modify i FileS.sync := by simp [Disk.onFile, hi]
  rw [hd]
  have r0 : W.cell? ⟨b, 0, none⟩ = some (.map (some A.nm)) := main_cell h.blk rfl
  obtain ⟨l', hp, hm⟩ := h.names
  have hl := look_names hp hw.nowN A n
  rw [hi] at hl
  have lk : ∀ nq, (Instr.lookup 85 (.map (some A.nm)) (.string n) false).run Tryz.prog (W.drewN nq) = .ok (.pointer (some ⟨(A.fa i).fb, 0, none⟩)) (W.drewN nq) := by
    intro nq
    have hm' : MapAt Value.string (W.drewN nq) A.nm (l'.map fun p => (p.1, fptr A p.2)) := hm.of_block rfl
    have := hm'.lookup kS Tryz.underlying85 (zP _) n false
    rw [this, hl]; rfl
  have F := h.files i f hf
  have hlf : f.seen.length ≤ 140737488355328 := hlen f (List.mem_of_getElem? hf)
  clear hl hp hd hi hex hlen hm
  unfold dptr at q1
  have H := Lib.hid h
  have HF := Lib.hid hf
  clear h hf
  go_enter Tryz.func58, Tryz.ntmps58
  go_wp2
  go_quiet (fail)
  have FN : FileAt (W.drewN nq) lab i (A.fa i) f := F.same (fun _ _ _ _ => rfl)
  have DN : DiskAt B (W.drewN nq) b A lab D := H.out.same (fun _ _ _ => rfl) (Nat.le_refl _)
  have f1 : Frm (Ft lab) W (W.drewN nq) := (Frm.refl _ _).drewN _
  clear lk F q1 q2 r0 h1 h2
  generalize W.drewN nq = Wn at *
  have x1 : Wn.cell? ⟨(A.fa i).fb, 1, none⟩ = some (A.fa i).sd := cell_of FN.blk rfl
  have x2 : Wn.cell? ⟨(A.fa i).fb, 2, none⟩ = some (.map (some (A.fa i).sb)) := cell_of FN.blk rfl
  have KEY := Lib.hid (clone_calls (A.fa i).sd f.seen (A.fa i).sb f.badSeen Wn (RowAt.bytes FN.seen) FN.badSeen hlf)
  have HN := Lib.hid DN
  have HFN := Lib.hid FN
  clear DN FN
  go_wp2_with fail
  refine KEY.out.mono ?_
  rintro e w1 ⟨v', m', rfl, hrow, hS, hbel, hm1, hm2, hne⟩
  have F := HFN.out
  have fblt : (A.fa i).fb < Wn.heap.size := blk_lt F.blk
  have wblt := (HN.out.base _ _ F.lwb).2
  have nwf : (A.fa i).wb ≠ (A.fa i).fb := ne_of_lab F.lwb F.lfb (by simp)
  have b1 : w1.heap[(A.fa i).fb]? = some (.cells #[.int .i64 (i + 1 : Nat), (A.fa i).sd, .map (some (A.fa i).sb), (A.fa i).ad, .map (some (A.fa i).ab), .map (some (A.fa i).wb)] 104 (0, 0)) := (hbel.block _ fblt).trans F.blk
  have y3 : w1.cell? ⟨(A.fa i).fb, 3, none⟩ = some (A.fa i).ad := cell_of b1 rfl
  have y4 : w1.cell? ⟨(A.fa i).fb, 4, none⟩ = some (.map (some (A.fa i).ab)) := cell_of b1 rfl
  have y5 : w1.cell? ⟨(A.fa i).fb, 5, none⟩ = some (.map (some (A.fa i).wb)) := cell_of b1 rfl
  have y6 : w1.frozen? ⟨(A.fa i).fb, 3, none⟩ = false := frozen_of b1
  have y7 : w1.frozen? ⟨(A.fa i).fb, 4, none⟩ = false := frozen_of b1
  obtain ⟨ks, hks, _⟩ := F.waits
  have hwm : ∀ u1 u2, MapAt (Value.int .i64) ((w1.setCell ⟨(A.fa i).fb, 3, none⟩ u1).setCell ⟨(A.fa i).fb, 4, none⟩ u2) (A.fa i).wb (ks.map fun k => (k, .int .i64 1)) := fun u1 u2 =>
    hks.of_block (by rw [blk_set_ne nwf, blk_set_ne nwf]; exact hbel.block _ wblt)
  have hvs : v' = .slice none 0 0 ∨ ∃ g cap, v' = .slice (some ⟨g, 0, none⟩) f.seen.length cap := by
    rcases hrow.2 with ⟨h2, _⟩ | ⟨g, cap, cur, hv', hg', hh, r⟩
    · exact .inl h2
    · exact .inr ⟨g, cap, hv'⟩
  have hfin : Hid (∀ w3, MapAt (Value.int .i64) w3 (A.fa i).wb ([] : List (Int × Value)) → ((w1.setCell ⟨(A.fa i).fb, 3, none⟩ v').setCell ⟨(A.fa i).fb, 4, none⟩ (.map (some m'))).grownBy w3 (some (A.fa i).wb) → Ext B b lab W w3 (D.modify i FileS.sync)) := by
    intro w3 h1 h2
    exact Ext.trans f1 (fun _ _ h => h) (HN.out.syncFile HF.out hbel hrow hS hm1 hm2 hne h1 h2)
  clear hrow hS hbel hm1 hm2 hne b1 hks F x1 x2 fblt wblt
  rcases hvs with rfl | ⟨g, cap, rfl⟩ <;> (
    go_wp2_with (first | (refine wpl_clear _ rfl (.tmp 20) rfl Tryz.underlying100 rfl (hwm _ _) ?_; intro w3 hm3 hg3 hs3))
    go_end0
    exact ⟨rfl, hfin.out w3 hm3 hg3⟩)
end Go.Proofs.YtglhedahannjiaaGreatDoor.Dw
