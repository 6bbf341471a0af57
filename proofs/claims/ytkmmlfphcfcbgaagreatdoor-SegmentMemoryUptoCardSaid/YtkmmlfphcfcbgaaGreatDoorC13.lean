/- A part of the proof of segmentMemoryUpto_holds: Mr, Ms, Dm2, Dq, Ef, Ek, Dk. No condition. -/
import Derived.Shelf.SlSortCmp.NoneTotal
import Derived.Ground.SlsfProg
import Derived.Ground.SlgnProg
import Derived.Shelf.SlicesE.Clone
import Derived.Test.YtkmmlfphcfcbgaaGreatDoorC12

/- delete while a map is gone through. -/
namespace Go.Proofs.YtkmmlfphcfcbgaaGreatDoor.Mp
open Go.RowKit Go.ChangeMaps
set_option linter.unusedVariables false
set_option linter.unusedSimpArgs false
set_option linter.unusedSectionVars false
section
variable {α : Type} [DecidableEq α] {enc : α → Value} {P : Program} {k e t : TypeId} (w : World) {m : Nat} {l : List (α × Value)}
  {ops : Array Oper} {rest : List Oper} {o : Oper} {a : Act} {Q : Exit → Act → World → Prop}
theorem KeyK.inj (K : KeyK P k enc) {x y : α} (h : enc x = enc y) : x = y := by
  obtain ⟨d, _, hs⟩ := K.same
  have h1 := hs x y
  rw [h, hs y y] at h1
  simpa using h1.symm
theorem filter_eraseIdx {β : Type} {q : β → Bool} : ∀ (l : List β) (j : Nat) (hj : j < l.length), q l[j] = false → (l.eraseIdx j).filter q = l.filter q
  | [], j, hj, _ => absurd hj (Nat.not_lt_zero _)
  | a :: l, 0, _, h => by simp at h; simp [h]
  | a :: l, j + 1, hj, h => by
    have ih := filter_eraseIdx l j (by simpa using hj) (by simpa using h)
    simp only [List.eraseIdx_cons_succ, List.filter_cons, ih]
theorem IterAt.delete {t2 : TypeId} {it : Nat} {todo : List (α × Value)} {w : World} (h : IterAt enc w it m l todo) (K : KeyK P k enc) (ht : P.underlying t = some (.map k e)) (x : α) (hx : x ∉ todo.map (·.1)) (ty : TypeId) :
    ∃ w', (Builtin.delete_ #[t, t2] ty #[.map (some m), enc x]).run P w = .ok (.tuple #[]) w' ∧ IterAt enc w' it m (delL l x) todo ∧ w.grownBy w' (some m) ∧ w'.heap.size = w.heap.size := by
  obtain ⟨es, clock, seen, hb, hi, hok, hl, htd⟩ := h
  have hit : it ≠ m := by rintro rfl; rw [hb] at hi; cases hi
  have hf := findKey_run (es := es.toList) K x hl w
  have hg : (getObj m).run P w = .ok (.map es clock) w := by simp [getObj, Sem.run, hb]
  have hs : ∀ o, (setObj m o).run P w = .ok () (setBlock w m o) := by intro o; simp [setObj, Sem.run, hb, setBlock]
  have hlen : es.size = l.length := by have := congrArg List.length hl; simpa using this
  have hc : ∀ b, (Instr.checkKey b 10000 k (enc x)).run P w = .ok () w := fun _ => K.check _ _ _ _
  have ha1 : (#[t, t2] : Array TypeId)[0]? = some t := rfl
  have ha2 : (#[Value.map (some m), enc x] : Array Value)[0]? = some (.map (some m)) := rfl
  have ha3 : (#[Value.map (some m), enc x] : Array Value)[1]? = some (enc x) := rfl
  have hi' : ∀ o' : Obj, w.grownBy (setBlock w m o') (some m) → (setBlock w m o').heap[it]? = some (.mapIter (some m) clock seen clock) := fun o' hg => by
    rw [hg.block it (Array.getElem?_eq_some_iff.1 hi).1 (by simpa using hit)]; exact hi
  simp only [Builtin.delete_, ha1, ha2, ha3, Sem.run_bind, run_underlying ht, Result.andThen_ok, hg, hc, hf]
  cases hj : l.findIdx? fun p => decide (p.1 = x) with
  | none =>
    obtain ⟨h1, h2, h3⟩ := heap_set_only (o' := .map es clock) hb
    exact ⟨_, by simp [hs], ⟨_, _, _, h3, hi' _ h1, hok, by simp [delL, hj, hl], htd⟩, h1, h2⟩
  | some j =>
    obtain ⟨hjl, hjx, _⟩ := List.findIdx?_eq_some_iff_getElem.1 hj
    have hje : j < es.size := by omega
    obtain ⟨h1, h2, h3⟩ := heap_set_only (o' := .map (es.eraseIdxIfInBounds j) clock) hb
    have hel : (es.eraseIdxIfInBounds j).toList = es.toList.eraseIdx j := by simp [Array.eraseIdxIfInBounds, hje]
    have hkey : (es.toList[j]'(by simpa using hje)).key = enc x := by
      have h5 : (es.toList.map (fun e => (e.key, e.val)))[j]? = (l.map fun p => (enc p.1, p.2))[j]? := by rw [hl]
      rw [List.getElem?_map, List.getElem?_map, List.getElem?_eq_getElem (by simpa using hje), List.getElem?_eq_getElem hjl] at h5
      simp only [Option.map_some, Option.some.injEq, Prod.mk.injEq] at h5
      rw [h5.1]
      have : (l[j]).1 = x := of_decide_eq_true hjx
      rw [this]
    have hseen : (!seen.contains (es.toList[j]'(by simpa using hje)).born) = false := by
      cases hsn : (!seen.contains (es.toList[j]'(by simpa using hje)).born) with
      | false => rfl
      | true =>
        exfalso
        have hmem : es.toList[j]'(by simpa using hje) ∈ es.toList.filter fun e => !seen.contains e.born := List.mem_filter.2 ⟨List.getElem_mem _, hsn⟩
        have h6 := List.mem_map_of_mem (f := fun e : MapEntry => (e.key, e.val)) hmem
        rw [htd] at h6
        obtain ⟨p, hp, hpe⟩ := List.mem_map.1 h6
        simp only [Prod.mk.injEq] at hpe
        rw [hkey] at hpe
        exact hx (List.mem_map.2 ⟨p, hp, K.inj hpe.1⟩)
    refine ⟨_, by simp [hs, List.getElem?_eq_getElem hjl], ⟨_, _, _, h3, hi' _ h1, ⟨?_, ?_⟩, ?_, ?_⟩, h1, h2⟩
    · rw [hel]; exact fun e he => hok.1 e (List.mem_of_mem_eraseIdx he)
    · rw [hel]; exact List.Pairwise.sublist (List.eraseIdx_sublist _ _) hok.2
    · rw [hel, map_eraseIdx, hl]; simp only [delL, hj]; rw [← map_eraseIdx]
    · rw [hel, filter_eraseIdx _ _ (by simpa using hje) hseen]; exact htd
end
end Go.Proofs.YtkmmlfphcfcbgaaGreatDoor.Mp

/- Orders of a list that is told by another one. -/
namespace Go.Proofs.YtkmmlfphcfcbgaaGreatDoor.Mp
set_option linter.unusedVariables false
theorem perm_map_inv {α β : Type} (f : α → β) {l m : List β} (h : l.Perm m) : ∀ l2 : List α, m = l2.map f → ∃ l3 : List α, l = l3.map f ∧ l3.Perm l2 := by
  induction h with
  | nil =>
    intro l2 h
    exact ⟨[], rfl, by rw [List.map_eq_nil_iff.1 h.symm]⟩
  | cons x h ih =>
    intro l2 e
    match l2, e with
    | a :: l2, e' =>
      simp only [List.map_cons, List.cons.injEq] at e'
      obtain ⟨rfl, e2⟩ := e'
      obtain ⟨l3, h1, h2⟩ := ih l2 e2
      exact ⟨a :: l3, by rw [h1]; rfl, h2.cons a⟩
  | swap x y l =>
    intro l2 e
    match l2, e with
    | a :: b :: l2, e' =>
      simp only [List.map_cons, List.cons.injEq] at e'
      obtain ⟨rfl, rfl, rfl⟩ := e'
      exact ⟨b :: a :: l2, rfl, List.Perm.swap a b l2⟩
  | trans h1 h2 ih1 ih2 =>
    intro l2 e
    obtain ⟨l3, rfl, h3⟩ := ih2 l2 e
    obtain ⟨l4, rfl, h4⟩ := ih1 l3 rfl
    exact ⟨l4, rfl, h4.trans h3⟩
/-- One entry has come out of a list that is told by another one. -/
theorem perm_map_cons {α β : Type} (f : α → β) {tk : List α} {y : β} {todo : List β} (h : (tk.map f).Perm (y :: todo)) : ∃ (p : α) (tk' : List α), y = f p ∧ todo = tk'.map f ∧ tk.Perm (p :: tk') := by
  obtain ⟨l3, h1, h2⟩ := perm_map_inv f h.symm tk rfl
  match l3, h1 with
  | p :: l3, h1 =>
    simp only [List.map_cons, List.cons.injEq] at h1
    exact ⟨p, l3, h1.1, h1.2, h2.symm⟩
end Go.Proofs.YtkmmlfphcfcbgaaGreatDoor.Mp

/- The pure disk: what stays true of its names. -/
namespace Go.Proofs.YtkmmlfphcfcbgaaGreatDoor.Da
open Go.Proofs.YtkmmlfphcfcbgaaGreatDoor.Dm
set_option linter.unusedVariables false
theorem erase_nodup {l : List (Name × Nat)} (h : (l.map (·.1)).Nodup) (n : Name) : ((erase l n).map (·.1)).Nodup := by
  unfold erase; exact h.sublist (List.filter_sublist.map _)
theorem put_nodup {l : List (Name × Nat)} (h : (l.map (·.1)).Nodup) (n : Name) (i : Nat) : ((put l n i).map (·.1)).Nodup := by
  unfold put
  rw [List.map_append, List.nodup_append]
  refine ⟨erase_nodup h n, by simp, ?_⟩
  intro a ha b hb e
  simp only [List.map_cons, List.map_nil, List.mem_singleton] at hb
  obtain ⟨p, hp, rfl⟩ := List.mem_map.1 ha
  have := (List.mem_filter.1 hp).2
  rw [e, hb] at this
  simp at this
theorem apply_nodup {l : List (Name × Nat)} (h : (l.map (·.1)).Nodup) (c : Chg) : ((apply l c).map (·.1)).Nodup := by
  unfold apply
  cases c.del <;> cases c.put <;> simp only [] <;> first | exact h | exact erase_nodup h _ | exact put_nodup h _ _ | exact put_nodup (erase_nodup h _) _ _
theorem fold_nodup (cs : List Chg) : ∀ {l : List (Name × Nat)}, (l.map (·.1)).Nodup → ((cs.foldl apply l).map (·.1)).Nodup := by
  induction cs with
  | nil => exact fun h => h
  | cons c cs ih => exact fun h => ih (apply_nodup h c)
end Go.Proofs.YtkmmlfphcfcbgaaGreatDoor.Da

/- Walks: left. -/
namespace Go.Proofs.YtkmmlfphcfcbgaaGreatDoor.Dw
open Go.RowKit Go.ChangeMaps Go.Proofs.YtkmmlfphcfcbgaaGreatDoor.Mp Go.Proofs.YtkmmlfphcfcbgaaGreatDoor.Dm Go.Proofs.YtkmmlfphcfcbgaaGreatDoor.Da
set_option linter.unusedVariables false
set_option linter.unusedSimpArgs false
set_option linter.unusedSectionVars false
/-- The entries of a map of names. -/
def nent (A : Adr) (l : List (Name × Nat)) : List (Name × Value) := l.map fun p => (p.1, fptr A p.2)
/-- In left's first loop. -/
structure LeftInv (w wr : World) (A : Adr) (m m2 it : Nat) (ks tk dk : List (Name × Nat)) : Prop where
  frm : Frm (fun _ => False) w wr
  iter : IterAt Value.string wr it m (nent A ks) (nent A tk)
  done : MapAt Value.string wr m2 (nent A dk)
  perm : (tk ++ dk).Perm ks
theorem setL_nent {A : Adr} {l : List (Name × Nat)} {n : Name} {i : Nat} (h : n ∉ l.map (·.1)) : setL (nent A l) n (fptr A i) = nent A (l ++ [(n, i)]) := by
  induction l with
  | nil => rfl
  | cons p l ih =>
    simp only [List.map_cons, List.mem_cons, not_or] at h
    have := ih h.2
    unfold nent at this ⊢
    simp only [List.map_cons, List.cons_append]
    rw [setL_cons, this]
    simp [Ne.symm h.1]
theorem chgRow (A : Adr) (l : List Chg) (k : Nat) (hk : k < l.length) (t : Nat) (ht : t < 3) : (l.flatMap (chgCells A))[k * 3 + t]? = (chgCells A l[k])[t]? := by
  induction l generalizing k with
  | nil => simp at hk
  | cons p l ih =>
    have hlen : ∀ c, (chgCells A c).length = 3 := fun c => rfl
    simp only [List.flatMap_cons]
    cases k with
    | zero =>
      rw [List.getElem?_append_left (by rw [hlen]; omega)]
      simp
    | succ k =>
      rw [List.getElem?_append_right (by rw [hlen]; omega), hlen, show (k + 1) * 3 + t - 3 = k * 3 + t by omega]
      exact ih k (by simpa using hk)
set_option maxHeartbeats 1000000 in
set_option maxRecDepth 100000 in
theorem left_calls {B : Nat} {w : World} {b : Nat} {A : Adr} {lab : Nat → Option Lb} {D : Disk} (h : DiskAt B w b A lab D) (hw : WF D) (n : Int) (hC : D.changes.length < 1099511627776) :
    Calls Tryz.prog 86 #[dptr b, .int .i64 n] w fun e w' => ∃ m2, e = .returned (.map (some m2)) ∧ NamesAt w' m2 (D.left n.toNat) A ∧ Frm (fun _ => False) w w' ∧ w.heap.size ≤ m2 ∧ m2 < w'.heap.size := by
  have hmm := @run_makeMap Tryz.prog
  have r1 : w.cell? ⟨b, 1, none⟩ = some (.map (some A.sm)) := main_cell h.blk rfl
  have r2 : w.cell? ⟨b, 2, none⟩ = some A.wv := main_cell h.blk rfl
  obtain ⟨ks, hp, hm⟩ := h.sure
  change MapAt Value.string w A.sm (nent A ks) at hm
  have hnd : (ks.map (·.1)).Nodup := (hp.map (·.1)).nodup_iff.2 hw.sureN
  have mlt := hm.lt
  have blt := blk_lt h.blk
  have F0 : Frm (fun _ => False) w (w.alloc (.map #[] 0)) := (Frm.refl _ _).alloc _
  have M0 : MapAt Value.string (w.alloc (.map #[] 0)) A.sm (nent A ks) := hm.of_block (F0.block _ mlt id)
  have M1 : MapAt Value.string (w.alloc (.map #[] 0)) w.heap.size (nent A []) := MapAt.made w
  have S0 : (w.alloc (.map #[] 0)).heap.size = w.heap.size + 1 := by simp only [World.size_alloc]
  have q0 := r2
  have q1 : (w.alloc (.map #[] 0)).cell? ⟨b, 1, none⟩ = some (.map (some A.sm)) := cell_alloc r1
  have q2 : (w.alloc (.map #[] 0)).cell? ⟨b, 2, none⟩ = some A.wv := cell_alloc r2
  have HP := Lib.hid hp
  have H := Lib.hid h
  obtain ⟨j, hj, hjx, hjl⟩ : ∃ j : Nat, max 0 (min n (D.changes.length : Int)) = (j : Int) ∧ j ≤ D.changes.length ∧ D.left n.toNat = (D.changes.take j).foldl apply D.sure := by
    refine ⟨min n.toNat D.changes.length, by omega, by omega, ?_⟩
    unfold Disk.left
    congr 1
    rw [List.take_eq_take_iff]; omega
  have HJ := Lib.hid hjl
  clear hjl
  have hrow := h.waiting.cells
  clear hp h hm r1 r2
  unfold dptr
  go_enter Tryz.func86, Tryz.ntmps86
  go_wp2_with (first | (at_range; generalize w.alloc (.map #[] 0) = W0 at *; refine wpl_range _ rfl _ rfl Tryz.underlying99 rfl M0 ?_; intro W1 hi1 hg1 hs1; rw [S0] at hi1 hs1 ⊢))
  have I1 : LeftInv w W1 A A.sm w.heap.size (w.heap.size + 1) ks ks [] := ⟨F0.grown hg1 (by simp), hi1, M1.of_block (hg1.block _ (by omega) (by simp)), by simp⟩
  have HI := Lib.hid I1
  clear I1 hi1 hg1 M0 M1 F0
  go_frame
  go_loopw [] (fun wr => ∃ tk dk, LeftInv w wr A A.sm w.heap.size (w.heap.size + 1) ks tk dk) (fun wr => leftIn wr (w.heap.size + 1) A.sm)
  case atStart => exact ⟨ks, [], HI.out⟩
  case round =>
    obtain ⟨tk, dk, I⟩ := hrel
    have hsz : w.heap.size + 1 < wr.heap.size := by
      obtain ⟨es, cl, sn, _, hh, _⟩ := I.iter
      exact blk_lt hh
    have II := Lib.hid I
    have hI := I.iter
    have hD := I.done
    have hleft := I.iter.left
    clear I
    by_cases h0 : tk = []
    · subst h0
      go_wp2_with (first | (at_next; refine wpl_next _ rfl _ rfl rfl hI (fun h0 => ?_) (fun y vv todo' w1 hp hi1 hg1 hs1 hen => absurd hp.length_eq (by simp [nent]))))
      have x2 : wr.cell? ⟨b, 2, none⟩ = some A.wv := (II.out.frm.cell blt id).trans q0
      have hdn : NamesAt wr w.heap.size D.sure A := ⟨dk, (by simpa using II.out.perm : dk.Perm ks).trans HP.out, hD⟩
      have HDN := Lib.hid hdn
      have HFR := Lib.hid II.out.frm
      clear hdn hI hD hleft II HI q0 q1 q2
      rcases hrow with ⟨hv, hn⟩ | ⟨g, cap, hv, hn, hcap, hg, hglt, hcells⟩
      · have hj0 : j = 0 := by omega
        have hm0 : max 0 (min n 0) = (0 : Int) := by omega
        rw [hv] at x2
        clear hj hn
        subst hj0
        go_quiet (fail)
        have f3 : Frm (fun _ => False) w (wr.drewN nq) := HFR.out.drewN _
        have n3 : NamesAt (wr.drewN nq) w.heap.size D.sure A := HDN.out.same rfl
        have s3 : w.heap.size < (wr.drewN nq).heap.size := Nat.lt_trans (Nat.lt_succ_self _) hsz
        clear x2 hsz HDN HFR
        generalize wr.drewN nq = wq at *
        have HF3 := Lib.hid f3
        have HN3 := Lib.hid n3
        clear f3 n3
        go_wp2_with fail
        refine wp_loop_rounds 1 ?_
        rw [rounds_succ]
        go_wp2_with fail
        go_ret
        exact ⟨_, rfl, by rw [HJ.out]; exact HN3.out, HF3.out, Nat.le_refl _, s3⟩
      · rw [hv] at x2
        have hjc : j ≤ cap := Nat.le_trans hjx hn
        go_quiet (fail)
        have f3 : Frm (fun _ => False) w (wr.drewN nq) := HFR.out.drewN _
        have n3 : NamesAt (wr.drewN nq) w.heap.size D.sure A := HDN.out.same rfl
        have s3 : w.heap.size < (wr.drewN nq).heap.size := Nat.lt_trans (Nat.lt_succ_self _) hsz
        clear x2 hsz HDN HFR
        generalize wr.drewN nq = wq at *
        have HF3 := Lib.hid f3
        have HN3 := Lib.hid n3
        clear f3 n3
        go_wp2_with fail
        go_loopw [38] (fun v wr2 => ∃ c : Nat, v = .int .i64 c ∧ c ≤ j ∧ NamesAt wr2 w.heap.size ((D.changes.take c).foldl apply D.sure) A ∧ Frm (fun _ => False) w wr2 ∧ w.heap.size < wr2.heap.size) (fun v _ => j - (intOf v).toNat)
        case atStart => exact ⟨0, rfl, Nat.zero_le _, HN3.out, HF3.out, s3⟩
        case round =>
          obtain ⟨c, rfl, hcj, hnm, hfr, hsz2⟩ := hrel
          by_cases hlt : c < j
          · have hcl : c < D.changes.length := by omega
            have hstep : (D.changes.take (c + 1)).foldl apply D.sure = apply ((D.changes.take c).foldl apply D.sure) D.changes[c] := by
              rw [List.take_succ_eq_append_getElem hcl, List.foldl_append]; rfl
            have hnd3 : (((D.changes.take c).foldl apply D.sure).map (·.1)).Nodup := fold_nodup _ hw.sureN
            have hdel := hw.chgD D.changes[c] (List.getElem_mem _)
            have k0 : wr.cell? ⟨g, c * 3, none⟩ = (chgCells A D.changes[c])[0]? := (hfr.cell hglt id).trans ((hcells _ (by omega)).trans (chgRow A D.changes c hcl 0 (by omega)))
            have k1 : wr.cell? ⟨g, c * 3 + 1, none⟩ = (chgCells A D.changes[c])[1]? := (hfr.cell hglt id).trans ((hcells _ (by omega)).trans (chgRow A D.changes c hcl 1 (by omega)))
            have k2 : wr.cell? ⟨g, c * 3 + 2, none⟩ = (chgCells A D.changes[c])[2]? := (hfr.cell hglt id).trans ((hcells _ (by omega)).trans (chgRow A D.changes c hcl 2 (by omega)))
            generalize D.changes[c] = ch at *
            obtain ⟨del, put⟩ := ch
            obtain ⟨l', hp', hm'⟩ := hnm
            change MapAt Value.string wr w.heap.size (nent A l') at hm'
            have HP' := Lib.hid hp'
            have HST := Lib.hid hstep
            have HFr := Lib.hid hfr
            have hgl : g < wr.heap.size := Nat.lt_of_lt_of_le hglt hfr.size
            clear hp' hstep hfr
            cases del with
            | none =>
              cases put with
              | none =>
                simp only [chgCells, List.getElem?_cons_zero, List.getElem?_cons_succ, Option.getD_none, Option.map_none] at k0 k1 k2
                go_wp2_with fail
                exact ⟨⟨c + 1, by go_num, by omega, by rw [HST.out]; exact ⟨l', HP'.out, hm'.of_block (blk_alloc_lt (by omega))⟩, HFr.out.alloc _, by simp only [World.size_alloc]; omega⟩, by simp [intOf]; omega⟩
              | some pp =>
                simp only [chgCells, fptr, List.getElem?_cons_zero, List.getElem?_cons_succ, Option.getD_none, Option.map_some, Option.getD_some] at k0 k1 k2
                have hma := hm'.of_block (w' := wr.alloc (.cells #[.string ⟨#[]⟩, .string pp.1, .pointer (some ⟨(A.fa pp.2).fb, 0, none⟩)] 135)) (blk_alloc_lt (by omega))
                obtain ⟨l2, hp2, hl2⟩ := setL_names HP'.out hnd3 A pp.1 pp.2
                have HP2 := Lib.hid (And.intro hp2 hl2)
                clear hp2 hl2
                go_wp2_with (first | (at_mapUpdate; refine wpl_update _ rfl _ _ _ rfl kS Tryz.underlying99 pp.1 rfl rfl hma (fun w2 hm2 hg2 hs2 => ?_)))
                have hm3 : MapAt Value.string w2 w.heap.size (l2.map fun p => (p.1, fptr A p.2)) := by rw [← HP2.out.2]; exact hm2
                exact ⟨⟨c + 1, by go_num, by omega, by rw [HST.out]; exact ⟨l2, HP2.out.1, hm3⟩, (HFr.out.alloc _).grown hg2 (fun k e hk => by have := Option.some.inj e; omega), by have := hg2.size; simp only [World.size_alloc] at this; omega⟩, by simp [intOf]; omega⟩
            | some nn =>
              have hne0 : ¬ ByteArray.toList nn = [] := by
                rw [ByteArray.toList_eq]
                exact fun e => hdel nn rfl (by rw [show nn = ⟨#[]⟩ from ByteArray.ext (Array.toList_inj.1 e)]; rfl)
              have hne1 : (!(ByteArray.toList nn).isEmpty) = true := by
                cases hx : ByteArray.toList nn with
                | nil => exact absurd hx hne0
                | cons _ _ => rfl
              have hne2 : (ByteArray.toList nn).isEmpty = false := by
                cases hx : ByteArray.toList nn with
                | nil => exact absurd hx hne0
                | cons _ _ => rfl
              have hne : (ByteArray.toList nn == ByteArray.toList ⟨#[]⟩) = false := by
                rw [beq_eq_false_iff_ne]
                exact fun e => hne0 (by rw [e, ByteArray.toList_eq])
              clear hne0
              obtain ⟨l2, hp2, hl2⟩ := delL_names HP'.out hnd3 A nn
              have HP2 := Lib.hid (And.intro hp2 hl2)
              clear hp2 hl2 hdel
              cases put with
              | none =>
                simp only [chgCells, List.getElem?_cons_zero, List.getElem?_cons_succ, Option.getD_none, Option.map_none, Option.getD_some] at k0 k1 k2
                have hma := hm'.of_block (w' := wr.alloc (.cells #[.string nn, .string ⟨#[]⟩, .pointer none] 135)) (blk_alloc_lt (by omega))
                have z0 : ∀ w2, (wr.alloc (.cells #[.string nn, .string ⟨#[]⟩, .pointer none] 135)).grownBy w2 (some w.heap.size) → w2.cell? ⟨wr.heap.size, 2, none⟩ = some (.pointer none) := fun w2 hg => (hg.cell_far _ (by simp only [World.size_alloc]; omega) (fun e => by have : wr.heap.size = w.heap.size := Option.some.inj e; omega)).trans (cell_of blk_alloc rfl)
                go_wp2_with (first | (at_delete; refine wpl_delete _ rfl _ _ rfl kS Tryz.underlying99 nn rfl rfl hma (fun w2 hm2 hg2 hs2 => ?_); have z1 := z0 w2 hg2))
                have hm3 : MapAt Value.string w2 w.heap.size (l2.map fun p => (p.1, fptr A p.2)) := by rw [← HP2.out.2]; exact hm2
                exact ⟨⟨c + 1, by go_num, by omega, by rw [HST.out]; exact ⟨l2, HP2.out.1, hm3⟩, (HFr.out.alloc _).grown hg2 (fun k e hk => by have := Option.some.inj e; omega), by have := hg2.size; simp only [World.size_alloc] at this; omega⟩, by simp [intOf]; omega⟩
              | some pp =>
                simp only [chgCells, fptr, List.getElem?_cons_zero, List.getElem?_cons_succ, Option.getD_none, Option.map_some, Option.getD_some] at k0 k1 k2
                have hma := hm'.of_block (w' := wr.alloc (.cells #[.string nn, .string pp.1, .pointer (some ⟨(A.fa pp.2).fb, 0, none⟩)] 135)) (blk_alloc_lt (by omega))
                have z0 : ∀ w2, (wr.alloc (.cells #[.string nn, .string pp.1, .pointer (some ⟨(A.fa pp.2).fb, 0, none⟩)] 135)).grownBy w2 (some w.heap.size) → w2.cell? ⟨wr.heap.size, 2, none⟩ = some (.pointer (some ⟨(A.fa pp.2).fb, 0, none⟩)) := fun w2 hg => (hg.cell_far _ (by simp only [World.size_alloc]; omega) (fun e => by have : wr.heap.size = w.heap.size := Option.some.inj e; omega)).trans (cell_of blk_alloc rfl)
                have z3 : ∀ w2, (wr.alloc (.cells #[.string nn, .string pp.1, .pointer (some ⟨(A.fa pp.2).fb, 0, none⟩)] 135)).grownBy w2 (some w.heap.size) → w2.cell? ⟨wr.heap.size, 1, none⟩ = some (.string pp.1) := fun w2 hg => (hg.cell_far _ (by simp only [World.size_alloc]; omega) (fun e => by have : wr.heap.size = w.heap.size := Option.some.inj e; omega)).trans (cell_of blk_alloc rfl)
                obtain ⟨l3, hp3, hl3⟩ := setL_names HP2.out.1 (erase_nodup hnd3 nn) A pp.1 pp.2
                have HP3 := Lib.hid (And.intro hp3 hl3)
                clear hp3 hl3
                go_wp2_with (first
                  | (at_delete; refine wpl_delete _ rfl _ _ rfl kS Tryz.underlying99 nn rfl rfl hma (fun w2 hm2 hg2 hs2 => ?_); have z1 := z0 w2 hg2; have z4 := z3 w2 hg2; change MapAt Value.string w2 w.heap.size (delL (List.map (fun p => (p.1, fptr A p.2)) l') nn) at hm2; rw [HP2.out.2] at hm2)
                  | (at_mapUpdate; refine wpl_update _ rfl _ _ _ rfl kS Tryz.underlying99 pp.1 rfl rfl hm2 (fun w3 hm3 hg3 hs3 => ?_)))
                have hm4 : MapAt Value.string w3 w.heap.size (l3.map fun p => (p.1, fptr A p.2)) := by rw [← HP3.out.2]; exact hm3
                exact ⟨⟨c + 1, by go_num, by omega, by rw [HST.out]; exact ⟨l3, HP3.out.1, hm4⟩, ((HFr.out.alloc _).grown hg2 (fun k e hk => by have := Option.some.inj e; omega)).grown hg3 (fun k e hk => by have := Option.some.inj e; omega), by have := hg2.size; have := hg3.size; simp only [World.size_alloc] at *; omega⟩, by simp [intOf]; omega⟩
          · obtain rfl : c = j := by omega
            have HNM := Lib.hid hnm
            clear hnm
            go_wp2_with fail
            go_ret
            exact ⟨_, rfl, by rw [HJ.out]; exact HNM.out, hfr, Nat.le_refl _, hsz2⟩
    · go_wp2_with (first
        | (at_next; refine wpl_next _ rfl _ rfl rfl hI (fun h0x => absurd (List.map_eq_nil_iff.1 h0x) h0) (fun y vv todo' w1 hp hi1 hg1 hs1 hen => ?_); obtain ⟨pp, tk', hpe, rfl, hp'⟩ := perm_map_cons _ hp; have HP' := Lib.hid hp'; have HPE := Lib.hid hpe; clear hp hp' hpe)
        | (at_mapUpdate; refine wpl_update _ rfl _ _ _ rfl kS Tryz.underlying99 y rfl rfl (hD.of_block (hg1.block _ (by omega) (by simp))) (fun w2 hm2 hg2 hs2 => ?_)))
      have hpe := HPE.out
      simp only [Prod.mk.injEq] at hpe
      obtain ⟨rfl, rfl⟩ := hpe
      have hI2 : IterAt Value.string w2 (w.heap.size + 1) A.sm (nent A ks) (nent A tk') := hi1.of_block (hg2.block _ (by have := hg1.size; omega) (by simp; omega)) (hg2.block _ (by have := hg1.size; omega) (by simp))
      have hnd2 : ((tk ++ dk).map (·.1)).Nodup := (II.out.perm.map _).nodup_iff.2 hnd
      have hy : pp.1 ∉ dk.map (·.1) := fun h => by
        rw [List.map_append] at hnd2
        exact (List.nodup_append.1 hnd2).2.2 pp.1 (List.mem_map_of_mem (HP'.out.mem_iff.2 List.mem_cons_self)) pp.1 h rfl
      refine ⟨⟨_, _, _, _, _, _, _, _, _, _, ⟨tk', dk ++ [(pp.1, pp.2)], ⟨?_, hI2, ?_, ?_⟩⟩, rfl⟩, ?_⟩
      · exact (II.out.frm.grown hg1 (fun k e hk => by have := Option.some.inj e; omega)).grown hg2 (fun k e hk => by have := Option.some.inj e; omega)
      · rw [← setL_nent hy]; exact hm2
      · refine List.Perm.trans ?_ II.out.perm
        refine List.Perm.trans ?_ (HP'.out.symm.append_right dk)
        rw [← List.append_assoc]
        exact List.perm_append_singleton _ (tk' ++ dk)
      · rw [hI2.left, hleft]
        have := HP'.out.length_eq
        simp [nent] at this ⊢
        omega
end Go.Proofs.YtkmmlfphcfcbgaaGreatDoor.Dw

/- Walks: sorted. -/
namespace Go.Proofs.YtkmmlfphcfcbgaaGreatDoor.Dw
open Go.RowKit Go.ChangeMaps Go.Proofs.YtkmmlfphcfcbgaaGreatDoor.Mp Go.Proofs.YtkmmlfphcfcbgaaGreatDoor.Dm Go.Proofs.YtkmmlfphcfcbgaaGreatDoor.Da
set_option linter.unusedVariables false
set_option linter.unusedSimpArgs false
set_option linter.unusedSectionVars false
def strs (l : List (Name × Nat)) : List Value := l.map fun p => .string p.1
theorem strs_enc (l : List (Name × Nat)) : strs l = (l.map fun p => p.1.data.toList).map Go.Proofs.encStr := by
  unfold strs
  rw [List.map_map]
  refine List.map_congr_left fun p _ => ?_
  show Value.string p.1 = Value.string ⟨(p.1.data.toList).toArray⟩
  rw [Array.toArray_toList]
theorem strs_sorted (l : List (Name × Nat)) : ((l.map fun p => p.1.data.toList).mergeSort leL).map Go.Proofs.encStr = strs (inOrder l) := by
  rw [strs_enc]
  congr 1
  unfold inOrder
  rw [List.map_mergeSort (s := leL)]
  intro a _ b _
  rfl
/-- In the loop that collects names. -/
structure NamesInv (w wr : World) (A : Adr) (base m it : Nat) (ks tk dk : List (Name × Nat)) (v : Value) : Prop where
  frm : Frm (fun _ => False) w wr
  iter : IterAt Value.string wr it m (nent A ks) (nent A tk)
  row : wr.ownsRow base 9 1 v dk.length (strs dk)
  perm : (tk ++ dk).Perm ks
theorem strInfo : (Tryz.prog.info? 9).map (fun i => (i.zero, i.size, i.bytes)) = some (some (.string ⟨#[]⟩), 1, 16) := by kernel_rfl
set_option maxHeartbeats 1000000 in
set_option maxRecDepth 100000 in
theorem sorted_calls {w : World} {m : Nat} {A : Adr} {l : List (Name × Nat)} (h : NamesAt w m l A) (hn : (l.map (·.1)).Nodup) (hM2 : l.length ≤ 1099511627776) :
    Calls Tryz.prog 75 #[.map (some m)] w fun e w' => ∃ p c, e = .returned (.slice p l.length c) ∧ w'.ownsRow w.heap.size 9 1 (.slice p l.length c) l.length (strs (inOrder l)) ∧ Frm (fun _ => False) w w' := by
  obtain ⟨i0, hi0, hz0, hz1, hz2⟩ := info_parts strInfo
  obtain ⟨ks, hp, hks⟩ := h
  change MapAt Value.string w m (nent A ks) at hks
  have hkl : ks.length = l.length := hp.length_eq
  have hfin : Hid (∀ dk : List (Name × Nat), dk.Perm ks → strs (inOrder dk) = strs (inOrder l)) := fun dk hd => by rw [inOrder_eq (hd.trans hp) hn]
  have hmx : maxLen = 9223372036854775807 := by decide
  have hl1 : (nent A ks).length = ks.length := by simp [nent]
  have HL1 := Lib.hid hl1
  have hml := hks.lt
  have HKL := Lib.hid hkl
  have hkb : ks.length ≤ 1099511627776 := by omega
  clear hl1 hn hp hkl
  go_enter Tryz.func75, Tryz.ntmps75
  go_wp2_with (first
    | (refine wpl_len _ rfl (.tmp 5) rfl Tryz.underlying99 rfl hks ?_; rw [HL1.out])
    | (at_make; refine wpList_make_own _ rfl _ _ _ rfl w.heap.size 9 i0 _ 1 Tryz.underlying66 hi0 hz0 hz1 .i64 .i64 _ ks.length rfl rfl rfl (by rw [hz2]; omega) (by omega) (Nat.le_refl _) ?_; intro w1 hown1 hg1; have hks1 := hks.of_block (hg1.block m hml (by simp)))
    | (at_range; refine wpl_range _ rfl _ rfl Tryz.underlying99 rfl hks1 ?_; intro W2 hi2 hg2 hs2))
  have I2 : NamesInv w W2 A w.heap.size m w1.heap.size ks ks [] (.slice (some ⟨w.heap.size, 0, none⟩) 0 ks.length) :=
    ⟨((Frm.refl _ _).grown hg1 (by simp)).grown hg2 (by simp), hi2, by simpa [strs] using own_grown hown1 hg2 (fun g _ => by simp), by simp⟩
  have HI := Lib.hid I2
  have hwb : w.heap.size ≤ w1.heap.size := hg1.size
  clear I2 hi2 hg2 hs2 hown1 hg1 hks1 hks
  go_frame
  generalize w1.heap.size = it at *
  go_loopw [3] (fun v wr => ∃ tk dk, NamesInv w wr A w.heap.size m it ks tk dk v) (fun _ wr => leftIn wr it m)
  case atStart => exact ⟨ks, [], HI.out⟩
  case round =>
    obtain ⟨tk, dk, I⟩ := hrel
    have II := Lib.hid I
    have hI := I.iter
    have hleft := I.iter.left
    have hrow := I.row
    clear I
    by_cases h0 : tk = []
    · subst h0
      have hp : dk.Perm ks := by simpa using II.out.perm
      have hdk : dk.length = ks.length := hp.length_eq
      have hdl : dk.length < 4611686018427387904 := by omega
      obtain ⟨p, c, rfl⟩ := own_form hrow
      have KEY0 := sortS_calls wr w.heap.size 9 p c (dk.map fun p => p.1.data.toList) (by rw [← strs_enc, List.length_map]; exact hrow) (by rw [List.length_map]; exact hdl)
      rw [strs_sorted, List.length_map] at KEY0
      have KEY := Lib.hid KEY0
      have HDK := Lib.hid hdk
      clear KEY0 hdk
      go_wp2_with (first
        | (at_next; refine wpl_next _ rfl _ rfl rfl hI (fun h0 => ?_) (fun y vv todo' w1 hp hi1 hg1 hs1 hen => absurd hp.length_eq (by simp [nent])))
        | (go_at_call 128; refine KEY.out.mono ?_; rintro e w3 ⟨rfl, hr3, hg3⟩; have HR3 := Lib.hid (And.intro hr3 hg3); clear hr3 hg3))
      go_ret
      have e := hfin.out dk hp
      have hr := HR3.out.1
      rw [e] at hr
      have hll : dk.length = l.length := HDK.out.trans HKL.out
      rw [hll] at hr
      exact ⟨p, c, by rw [hll]; rfl, hr, II.out.frm.grown HR3.out.2 (fun k e hk => by have := own_low hrow e; omega)⟩
    · have hlt : dk.length < ks.length := by
        have := II.out.perm.length_eq
        have h2 : 0 < tk.length := List.length_pos_iff.2 h0
        simp at this; omega
      have hn1 : dk.length + 1 ≤ maxLen := by omega
      have hb1 : (dk.length + 1) * 16 ≤ 140737488355328 := by omega
      have hne := own_ne_iter hrow hI
      have hwr : w.heap.size ≤ wr.heap.size := II.out.frm.size
      go_wp2_with (first
        | (at_next; refine wpl_next _ rfl _ rfl rfl hI (fun h0x => absurd (List.map_eq_nil_iff.1 h0x) h0) (fun y vv todo' w1 hp hi1 hg1 hs1 hen => ?_); obtain ⟨pp, tk', hpe, rfl, hp'⟩ := perm_map_cons _ hp; have HP' := Lib.hid hp'; have HPE := Lib.hid hpe; have hrow1 := own_grown hrow hg1 (fun g hg => by rw [← hg]; exact fun e => hne.1 e.symm); have hsz1 := hg1.size; clear hp hp' hs1 hpe)
        | (at_builtin; refine wpList_append_own_at _ rfl _ _ _ rfl w.heap.size 9 i0 _ 1 16 Tryz.underlying66 hi0 hz0 hz1 hz2 rfl (by omega) _ dk.length _ rfl (hrow1.alloc _) ⟨w1.heap.size, 0, none⟩ 1 1 [.string y] rfl rfl (World.news_of_block (cs := #[.string y]) (t := 9) (fr := (0, 0)) (heap_alloc_new w1 _)) (by simp [Value.oneCell']) hn1 hb1 (by simp; omega) ?_; intro v2 w2 hown2 hg2 hnil2 hat2))
      have hpe := HPE.out
      simp only [Prod.mk.injEq] at hpe
      obtain ⟨rfl, _⟩ := hpe
      have hi2 : IterAt Value.string w2 it m (nent A ks) (nent A tk') := by
        have itl : it < w1.heap.size := by obtain ⟨es, cl, sn, _, hh, _⟩ := hi1; exact blk_lt hh
        have ml : m < w1.heap.size := by obtain ⟨es, cl, sn, hh, _⟩ := hi1; exact blk_lt hh
        exact hi1.of_block ((hg2.block m (by simp; omega) hne.2).trans (blk_alloc_lt ml)) ((hg2.block it (by simp; omega) hne.1).trans (blk_alloc_lt itl))
      go_roundw
      case rel =>
        refine ⟨tk', dk ++ [pp], ⟨?_, hi2, by simpa [strs] using hown2, ?_⟩⟩
        · exact ((II.out.frm.grown hg1 (fun k e hk => by have := Option.some.inj e; omega)).alloc _).grown hg2 (fun k e hk => by have := own_low hrow e; omega)
        · refine List.Perm.trans ?_ II.out.perm
          refine List.Perm.trans ?_ (HP'.out.symm.append_right dk)
          rw [← List.append_assoc]
          exact List.perm_append_singleton pp (tk' ++ dk)
      case measure =>
        rw [hi2.left, hleft]
        have := HP'.out.length_eq
        simp [nent] at this ⊢
        omega
end Go.Proofs.YtkmmlfphcfcbgaaGreatDoor.Dw

/- Walks: the order by birth; slices.SortFunc and slices.Clone at strings, by the shelf. -/
namespace Go.Proofs.YtkmmlfphcfcbgaaGreatDoor.Dw
open Go.RowKit Go.ChangeMaps Go.Proofs.YtkmmlfphcfcbgaaGreatDoor.Mp Go.Proofs.YtkmmlfphcfcbgaaGreatDoor.Dm Go.Proofs.YtkmmlfphcfcbgaaGreatDoor.Da Go.Shelf Go.Sort
set_option linter.unusedVariables false
set_option linter.unusedSimpArgs false
set_option linter.unusedSectionVars false
set_option maxHeartbeats 1000000 in
set_option maxRecDepth 100000 in
theorem cmp_calls {W : World} {nv m2 : Nat} {A : Adr} {l : List (Name × Nat)} (h1 : W.cell? ⟨nv, 0, none⟩ = some (.map (some m2))) (hm : NamesAt W m2 l A) (hn : (l.map (·.1)).Nodup) {a b : Name} {ia ib : Nat} (ha : (a, ia) ∈ l) (hb : (b, ib) ∈ l)
    (fa : W.cell? ⟨(A.fa ia).fb, 0, none⟩ = some (.int .i64 (ia + 1 : Nat))) (fb : W.cell? ⟨(A.fa ib).fb, 0, none⟩ = some (.int .i64 (ib + 1 : Nat))) (ba : ia < 4611686018427387904) (bb : ib < 4611686018427387904) :
    Calls Tryz.prog 89 #[.string a, .string b, .pointer (some ⟨nv, 0, none⟩)] W fun e w' => e = .returned (.int .i64 ((ia : Int) - (ib : Int))) ∧ ∃ q, w' = W.drewN q := by
  obtain ⟨l', hp, hm⟩ := hm
  have la := look_names hp hn A a
  rw [(find_iff hn a ia).2 ha] at la
  have lb := look_names hp hn A b
  rw [(find_iff hn b ib).2 hb] at lb
  have ka : ∀ nq, (Instr.lookup 99 (.map (some m2)) (.string a) false).run Tryz.prog (W.drewN nq) = .ok (.pointer (some ⟨(A.fa ia).fb, 0, none⟩)) (W.drewN nq) := by
    intro nq
    have hm' : MapAt Value.string (W.drewN nq) m2 (l'.map fun p => (p.1, fptr A p.2)) := hm.of_block rfl
    have := hm'.lookup kS Tryz.underlying99 (zP _) a false
    rw [this, la]; rfl
  have kb : ∀ nq, (Instr.lookup 99 (.map (some m2)) (.string b) false).run Tryz.prog (W.drewN nq) = .ok (.pointer (some ⟨(A.fa ib).fb, 0, none⟩)) (W.drewN nq) := by
    intro nq
    have hm' : MapAt Value.string (W.drewN nq) m2 (l'.map fun p => (p.1, fptr A p.2)) := hm.of_block rfl
    have := hm'.lookup kS Tryz.underlying99 (zP _) b false
    rw [this, lb]; rfl
  have e1 : ((ia + 1 : Nat) : Int) = (ia : Int) + 1 := by omega
  have e2 : ((ib + 1 : Nat) : Int) = (ib : Int) + 1 := by omega
  rw [e1] at fa
  rw [e2] at fb
  have e3 : (ia : Int) + 1 - ((ib : Int) + 1) = (ia : Int) - (ib : Int) := by omega
  have E3 := Lib.hid e3
  have wr : IntKind.i64.wrap ((ia : Int) + 1 - ((ib : Int) + 1)) = (ia : Int) + 1 - ((ib : Int) + 1) := by rw [IntKind.wrap_i64]; omega
  have WR := Lib.hid wr
  clear la lb hp hm ha hb e1 e2 e3 wr hn
  generalize hga : (A.fa ia).fb = pa at *
  generalize hgb : (A.fa ib).fb = pb at *
  clear hga hgb
  go_enter Tryz.func89, Tryz.ntmps89
  go_wp2
  go_quiet (fail)
  go_wp2
  go_ret
  exact ⟨by first | (rw [← E3.out]; done) | (rw [← E3.out]; rfl) | (rw [← E3.out, ← WR.out]; rfl), ⟨_, rfl⟩⟩
/-- The order by birth, of places in a list. -/
def bornF (ll : List (Name × Nat)) (i j : Fin ll.length) : Int := ((ll[i.1].2 : Nat) : Int) - ((ll[j.1].2 : Nat) : Int)
def nameF (ll : List (Name × Nat)) (i : Fin ll.length) : Value := .string (ll[i.1].1)
theorem ltF (ll : List (Name × Nat)) (i j : Fin ll.length) : ltOf (bornF ll) i j = decide (ll[i.1].2 < ll[j.1].2) := by
  unfold ltOf bornF
  rw [decide_eq_decide]; omega
theorem swoF (ll : List (Name × Nat)) : SWO (ltOf (bornF ll)) where
  irrefl x := by rw [ltF]; simp
  trans x y z h1 h2 := by rw [ltF] at *; simp at *; omega
  ntrans x y z h1 h2 := by rw [ltF] at *; simp at *; omega
theorem nodup_inj {l : List Nat} (h : l.Nodup) {i j : Nat} (hi : i < l.length) (hj : j < l.length) (e : l[i] = l[j]) : i = j := by
  have := List.pairwise_iff_getElem.1 h
  rcases Nat.lt_trichotomy i j with h1 | h1 | h1
  · exact absurd e (this i j hi hj h1)
  · exact h1
  · exact absurd e.symm (this j i hj hi h1)
theorem totF {ll : List (Name × Nat)} (hn : (ll.map (·.2)).Nodup) (x y : Fin ll.length) (h1 : ltOf (bornF ll) x y = false) (h2 : ltOf (bornF ll) y x = false) : x = y := by
  rw [ltF] at h1 h2
  simp only [decide_eq_false_iff_not, Nat.not_lt] at h1 h2
  have e : (ll.map (·.2))[x.1]'(by simp) = (ll.map (·.2))[y.1]'(by simp) := by simp; omega
  exact Fin.ext (nodup_inj hn _ _ e)
theorem byBirth_eq {l l' : List (Name × Nat)} (hp : l'.Perm l) (hn : (l.map (·.2)).Nodup) : byBirth l' = byBirth l := by
  have hs : ∀ l : List (Name × Nat), (byBirth l).Pairwise fun a b => a.2 ≤ b.2 := fun l => (List.pairwise_mergeSort (le := fun a b : Name × Nat => decide (a.2 ≤ b.2)) (fun a b c h1 h2 => by simp at *; omega) (fun a b => by simp; omega) l).imp fun h => by simpa using h
  refine List.Perm.eq_of_pairwise (le := fun a b : Name × Nat => a.2 ≤ b.2) (fun p q hp1 hq1 h1 h2 => ?_) (hs l') (hs l) (((byBirth_perm l').trans hp).trans (byBirth_perm l).symm)
  have m1 : p ∈ l := (hp.mem_iff).1 ((byBirth_perm l').mem_iff.1 hp1)
  have m2 : q ∈ l := (byBirth_perm l).mem_iff.1 hq1
  obtain ⟨i, hi, rfl⟩ := List.getElem_of_mem m1
  obtain ⟨j, hj, rfl⟩ := List.getElem_of_mem m2
  have e : (l.map (·.2))[i]'(by simpa using hi) = (l.map (·.2))[j]'(by simpa using hj) := by simp; omega
  have := nodup_inj hn _ _ e
  subst this; rfl
theorem sortedF {ll : List (Name × Nat)} : ((List.finRange ll.length).mergeSort fun x y => !ltOf (bornF ll) y x).map (fun i => ll[i.1]) = byBirth ll := by
  have h1 := List.map_mergeSort (r := fun x y : Fin ll.length => !ltOf (bornF ll) y x) (s := fun a b : Name × Nat => decide (a.2 ≤ b.2)) (f := fun i : Fin ll.length => ll[i.1]) (l := List.finRange ll.length) (by
    intro x _ y _
    rw [ltF, Bool.eq_iff_iff]; simp)
  rw [h1]
  unfold byBirth
  congr 1
  apply List.ext_getElem
  · simp
  · intro i h1 h2; simp
theorem sizeStr (w : World) : (Go.sizeOf 9).run Tryz.prog w = .ok 1 w := by kernel_rfl
theorem cloneS_calls {w : World} {base : Nat} {p : Option Addr} {n c : Nat} {l : List (Name × Nat)} (hrow : w.ownsRow base 9 1 (.slice p n c) n (strs l)) (hn : n ≤ 1099511627776) :
    Calls Tryz.prog 87 #[.slice p n c] w fun e w' => ∃ p' c', e = .returned (.slice p' n c') ∧ w'.ownsRow w.heap.size 9 1 (.slice p' n c') n (strs l) ∧ Frm (fun _ => False) w w' := by
  rcases hrow.2 with ⟨hv, hz⟩ | ⟨g, cap, cur, hv, hg, hh, b1, b2, b3, b4⟩
  · simp only [Value.slice.injEq] at hv
    obtain ⟨rfl, rfl, rfl⟩ := hv
    refine (AnyE.slices_Clone_nil cloneS_lays 0 0 w).mono ?_
    rintro e w' ⟨rfl, rfl⟩
    exact ⟨none, 0, rfl, ⟨hrow.1, .inl ⟨rfl, rfl⟩⟩, Frm.refl _ _⟩
  · simp only [Value.slice.injEq, true_and] at hv
    obtain ⟨rfl, rfl⟩ := hv
    obtain ⟨i0, hi0, hz0, hz1, hz2⟩ := info_parts strInfo
    have hmx : maxLen = 9223372036854775807 := by decide
    refine (AnyE.slices_Clone cloneS_lays i0 _ 1 16 hi0 hz0 hz1 hz2 rfl (by omega) sizeStr g 0 n c (strs l) w hrow.1 (by omega) (by omega) ?_ ?_).mono ?_
    · intro j u hu
      have hj := (List.getElem?_eq_some_iff.1 hu).1
      have hl : (strs l).length = n := by have := hrow.1; omega
      rw [Nat.zero_add]
      simp only [World.cell?, hh, Option.isSome_none, Bool.false_eq_true, if_false]
      rw [← hu, ← b4, Nat.mul_one, List.getElem?_take_of_lt (by omega), Array.getElem?_toList]
    · intro u hu
      obtain ⟨q, _, rfl⟩ := List.mem_map.1 hu
      rfl
    · rintro e w' ⟨v', rfl, h1, h2, h3⟩
      obtain ⟨p', c', rfl⟩ := own_form h1
      exact ⟨p', c', rfl, h1, Frm.of_below h3 _⟩
theorem sortF_calls {w : World} {base : Nat} {p : Option Addr} {c nv m2 : Nat} {A : Adr} {l : List (Name × Nat)} (hN : NamesAt w m2 l A) (hn : (l.map (·.1)).Nodup) (hi : (l.map (·.2)).Nodup) (hl : l.length < 1099511627776)
    (h1 : w.heap[nv]? = some (.cells #[.map (some m2)] 99 (0, 0))) (hf : ∀ q, q ∈ l → q.2 < 4611686018427387904 ∧ ∃ cs, w.heap[(A.fa q.2).fb]? = some (.cells cs 144 (0, 0)) ∧ cs[0]? = some (.int .i64 (q.2 + 1 : Nat)))
    (hrow : w.ownsRow base 9 1 (.slice p l.length c) l.length (strs (inOrder l))) :
    Calls Tryz.prog 88 #[.slice p l.length c, .func (.func 89) #[] #[.pointer (some ⟨nv, 0, none⟩)]] w fun e w' => e = .returned (.tuple #[]) ∧ w'.ownsRow base 9 1 (.slice p l.length c) l.length (strs (byBirth l)) ∧ w.grownBy w' (Value.slice p l.length c).ownBlock := by
  rcases hrow.2 with ⟨hv, hz⟩ | ⟨g, cap, cur, hv, hg, hh, b1, b2, b3, b4⟩
  · have hl0 : l = [] := List.eq_nil_of_length_eq_zero hz
    subst hl0
    refine (AnyF.slices_SortFunc_none { sortF_lays with } p c _ w).mono ?_
    rintro e w' ⟨rfl, rfl⟩
    exact ⟨rfl, by simpa [strs, inOrder, byBirth] using hrow, World.grownBy.refl _ _⟩
  · simp only [Value.slice.injEq, true_and] at hv
    obtain ⟨rfl, rfl⟩ := hv
    generalize hll : inOrder l = ll at *
    have hperm : ll.Perm l := by rw [← hll]; exact inOrder_perm l
    have hlen : ll.length = l.length := hperm.length_eq
    have hil : (ll.map (·.2)).Nodup := (hperm.map _).nodup_iff.2 hi
    rcases Nat.eq_zero_or_pos ll.length with h0 | h0
    · have hl0 : l = [] := List.eq_nil_of_length_eq_zero (by omega)
      subst hl0
      refine (AnyF.slices_SortFunc_none { sortF_lays with } (some ⟨g, 0, none⟩) c _ w).mono ?_
      rintro e w' ⟨rfl, rfl⟩
      have : ll = [] := List.eq_nil_of_length_eq_zero h0
      exact ⟨rfl, by simpa [strs, byBirth, this] using hrow, World.grownBy.refl _ _⟩
    · letI : Inhabited (Fin ll.length) := ⟨⟨0, h0⟩⟩
      have hd : (List.finRange ll.length).map (nameF ll) = strs ll := by
        unfold strs nameF
        apply List.ext_getElem
        · simp
        · intro i h1 h2; simp
      have hfl : (List.finRange ll.length).length = l.length := by simp [hlen]
      have hH : Holds (nameF ll) w g 0 (List.finRange ll.length).toArray := enc_holds hh (by rw [hfl, hd]; simpa using b4)
      have hcmp : CmpReads Tryz.prog 89 #[.pointer (some ⟨nv, 0, none⟩)] (nameF ll) (bornF ll) g 0 (List.finRange ll.length).toArray.size w := by
        intro m os dk hs x y
        have hgr : w.grownBy (sortWorld (nameF ll) w g 0 m dk os) (some g) := enc_grown dk
        have ne : ∀ k cs t, w.heap[k]? = some (.cells cs t (0, 0)) → t ≠ 9 → some k ≠ some g := by
          intro k cs t hk ht e
          rw [Option.some.inj e, hh] at hk
          cases hk; exact ht rfl
        obtain ⟨l', hp, hm⟩ := hN
        have hmg : some m2 ≠ some g := by
          obtain ⟨es, cl, e1, _⟩ := hm
          intro e
          rw [Option.some.inj e, hh] at e1; cases e1
        have mx : ll[x.1] ∈ l := hperm.mem_iff.1 (List.getElem_mem _)
        have my : ll[y.1] ∈ l := hperm.mem_iff.1 (List.getElem_mem _)
        obtain ⟨bx, cx, ex, fx⟩ := hf _ mx
        obtain ⟨by_, cy, ey, fy⟩ := hf _ my
        have q1 : (sortWorld (nameF ll) w g 0 m dk os).heap[nv]? = _ := (hgr.block nv (blk_lt h1) (ne _ _ _ h1 (by decide))).trans h1
        exact cmp_calls (cell_of q1 rfl) ⟨l', hp, hm.of_block (hgr.block m2 hm.lt hmg)⟩ hn mx my
          (cell_of ((hgr.block _ (blk_lt ex) (ne _ _ _ ex (by decide))).trans ex) fx) (cell_of ((hgr.block _ (blk_lt ey) (ne _ _ _ ey (by decide))).trans ey) fy) bx by_
      have hcon := Any.slices_SortFunc_total (α := Fin ll.length) sortF_lays (nameF ll) (fun _ => rfl) (bornF ll) (swoF ll) 89 #[.pointer (some ⟨nv, 0, none⟩)] g 0 c (List.finRange ll.length).toArray w (enters_of Tryz.func89 (by kernel_rfl) rfl) hcmp.lays hH (blk_lt hh) (by simp; omega) (totF hil)
      have hsz : (List.finRange ll.length).toArray.size = l.length := by simp [hlen]
      rw [hsz] at hcon
      refine hcon.mono ?_
      rintro e w' ⟨rfl, n, os, rfl⟩
      refine ⟨rfl, ?_, enc_grown _⟩
      have := enc_owns (enc := nameF ll) (w := w) (n := n) (os := os) (ss := List.finRange ll.length) (ts := (List.finRange ll.length).mergeSort fun x y => !ltOf (bornF ll) y x) (by simp) hg hh (by rw [hfl]; exact b1) b2 b3
      rw [hfl] at this
      have e2 : ((List.finRange ll.length).mergeSort fun x y => !ltOf (bornF ll) y x).map (nameF ll) = strs (byBirth l) := by
        rw [← byBirth_eq hperm hi, ← sortedF]
        unfold strs nameF
        rw [List.map_map]; rfl
      rw [e2] at this
      exact this
end Go.Proofs.YtkmmlfphcfcbgaaGreatDoor.Dw

/- Walks: Sync's closures. -/
namespace Go.Proofs.YtkmmlfphcfcbgaaGreatDoor.Dw
open Go.RowKit Go.ChangeMaps Go.Proofs.YtkmmlfphcfcbgaaGreatDoor.Mp Go.Proofs.YtkmmlfphcfcbgaaGreatDoor.Dm Go.Proofs.YtkmmlfphcfcbgaaGreatDoor.Da
set_option linter.unusedVariables false
set_option linter.unusedSimpArgs false
set_option linter.unusedSectionVars false
set_option maxRecDepth 100000 in
theorem sync1 {B : Nat} {W : World} {b : Nat} {A : Adr} {lab : Nat → Option Lb} {D : Disk} {eb : Nat → Addr} {L : List Err} (h : DiskAt B W b A lab D) (he : ErrsAt B W eb L) (hw : WF D) (n : Name) (cd cn : Nat)
    (h1 : W.cell? ⟨cd, 0, none⟩ = some (dptr b)) (h2 : W.cell? ⟨cn, 0, none⟩ = some (.string n)) :
    Calls Tryz.prog 120 #[.pointer (some ⟨cd, 0, none⟩), .pointer (some ⟨cn, 0, none⟩)] W fun e W' =>
      e = .returned (.agg #[errV eb (D.gone n), .func (.func 121) #[] #[.pointer (some ⟨cd, 0, none⟩), .pointer (some ⟨cn, 0, none⟩)], .bool false, .nilFunc]) ∧ Frm (fun _ => False) W W' := by
  have n1 := World.block_lt_of_cell? W _ h1
  have n2 := World.block_lt_of_cell? W _ h2
  have key : ∀ o, Calls Tryz.prog 98 #[dptr b, .string n] (W.alloc o) fun e w' => e = .returned (errV eb (D.gone n)) ∧ w' = W.alloc o :=
    fun o => gone_calls (h.alloc o) (he.alloc o) hw.nowN n
  unfold dptr at h1 key
  have KEY := Lib.hid key
  clear key
  go_enter Tryz.func120, Tryz.ntmps120
  go_wp2_with fail
  refine (KEY.out _).mono ?_
  rintro e w' ⟨rfl, rfl⟩
  by_cases h0 : D.gone n = 0
  · rw [h0, errV_zero]
    go_wp2
    exact bodyPost_ret (v := .agg #[.nilIface, .func (.func 121) #[] #[.pointer (some ⟨cd, 0, none⟩), .pointer (some ⟨cn, 0, none⟩)], .bool false, .nilFunc]) (by simp [results, Tryz.results120, go_sem]) rfl ⟨by rw [h0, errV_zero], (by repeat (first | (with_reducible assumption) | (with_reducible exact Frm.refl _ _) | (with_reducible apply Frm.drewN) | (with_reducible apply Frm.drew) | (with_reducible apply Frm.alloc) | (with_reducible refine Frm.setCell ?_ _ _ (fun h => absurd h (by first | (simp; done) | (simp; omega))))))⟩
  · rw [errV_pos eb (D.gone n) h0]
    go_wp2
    exact bodyPost_ret (v := .agg #[.iface 311 (.pointer (some (eb (D.gone n)))), .func (.func 121) #[] #[.pointer (some ⟨cd, 0, none⟩), .pointer (some ⟨cn, 0, none⟩)], .bool false, .nilFunc]) (by simp [results, Tryz.results120, go_sem]) rfl ⟨by rw [errV_pos eb (D.gone n) h0], (by repeat (first | (with_reducible assumption) | (with_reducible exact Frm.refl _ _) | (with_reducible apply Frm.drewN) | (with_reducible apply Frm.drew) | (with_reducible apply Frm.alloc) | (with_reducible refine Frm.setCell ?_ _ _ (fun h => absurd h (by first | (simp; done) | (simp; omega))))))⟩
/-- A row of bytes, for a clone. -/
theorem RowAt.bytes {w : World} {lab : Nat → Option Lb} {p : Lb} {v : Value} {xs : List Int} (h : RowAt w lab p 5 1 v xs.length (u8s xs)) :
    (v = .slice none 0 0 ∧ xs = []) ∨ ∃ b off c, v = .slice (some ⟨b, off, none⟩) xs.length c ∧ ∀ j u, (u8s xs)[j]? = some u → w.cell? ⟨b, off + j, none⟩ = some u := by
  rcases h.cells with ⟨h1, h2⟩ | ⟨g, cap, h1, _, _, _, _, h2⟩
  · exact .inl ⟨h1, List.eq_nil_of_length_eq_zero h2⟩
  · refine .inr ⟨g, 0, cap, h1, fun j u hu => ?_⟩
    have hj : j < xs.length := by
      have := (List.getElem?_eq_some_iff.1 hu).1
      simpa [u8s] using this
    rw [Nat.zero_add, h2 j (by omega)]; exact hu
set_option maxHeartbeats 1000000 in
set_option maxRecDepth 100000 in
theorem sync11 {B : Nat} {W : World} {b : Nat} {A : Adr} {lab : Nat → Option Lb} {D : Disk} (h : DiskAt B W b A lab D) (hw : WF D) (n : Name) (hex : (find D.now n).isSome = true) (hlen : ∀ f, f ∈ D.files → f.seen.length ≤ 140737488355328) (cd cn : Nat) (h1 : Cap W lab cd (dptr b)) (h2 : Cap W lab cn (.string n)) :
    Calls Tryz.prog 121 #[.pointer (some ⟨cd, 0, none⟩), .pointer (some ⟨cn, 0, none⟩)] W fun e W' => e = .returned (.tuple #[]) ∧ Ext B b lab W W' (D.onFile n FileS.sync) := by
  have q1 := h1.1
  have q2 := h2.1
  obtain ⟨i, hi⟩ := Option.isSome_iff_exists.1 hex
  obtain ⟨f, hf⟩ := WF.file hw hi
  have hd : D.onFile n FileS.sync = D.modify i FileS.sync := by simp [Disk.onFile, hi]
  rw [hd]
  have r0 : W.cell? ⟨b, 0, none⟩ = some (.map (some A.nm)) := main_cell h.blk rfl
  obtain ⟨l', hp, hm⟩ := h.names
  have hl := look_names hp hw.nowN A n
  rw [hi] at hl
  have lk : ∀ nq, (Instr.lookup 99 (.map (some A.nm)) (.string n) false).run Tryz.prog (W.drewN nq) = .ok (.pointer (some ⟨(A.fa i).fb, 0, none⟩)) (W.drewN nq) := by
    intro nq
    have hm' : MapAt Value.string (W.drewN nq) A.nm (l'.map fun p => (p.1, fptr A p.2)) := hm.of_block rfl
    have := hm'.lookup kS Tryz.underlying99 (zP _) n false
    rw [this, hl]; rfl
  have F := h.files i f hf
  have hlf : f.seen.length ≤ 140737488355328 := hlen f (List.mem_of_getElem? hf)
  clear hl hp hd hi hex hlen hm
  unfold dptr at q1
  have H := Lib.hid h
  have HF := Lib.hid hf
  clear h hf
  go_enter Tryz.func121, Tryz.ntmps121
  go_wp2
  go_quiet (fail)
  have FN : FileAt (W.drewN nq) lab i (A.fa i) f := F.same (fun _ _ _ _ => rfl)
  have DN : DiskAt B (W.drewN nq) b A lab D := H.out.same (fun _ _ _ => rfl) (Nat.le_refl _)
  have f1 : Frm (Ft lab) W (W.drewN nq) := (Frm.refl _ _).drewN _
  clear lk F q1 q2 r0 h1 h2
  generalize W.drewN nq = Wn at *
  have x1 : Wn.cell? ⟨(A.fa i).fb, 1, none⟩ = some (A.fa i).sd := cell_of FN.blk rfl
  have x2 : Wn.cell? ⟨(A.fa i).fb, 2, none⟩ = some (.map (some (A.fa i).sb)) := cell_of FN.blk rfl
  have KEY := Lib.hid (clone_calls (A.fa i).sd f.seen (A.fa i).sb f.badSeen Wn (RowAt.bytes FN.seen) FN.badSeen hlf)
  have HN := Lib.hid DN
  have HFN := Lib.hid FN
  clear DN FN
  go_wp2_with fail
  refine KEY.out.mono ?_
  rintro e w1 ⟨v', m', rfl, hrow, hS, hbel, hm1, hm2, hne⟩
  have F := HFN.out
  have fblt : (A.fa i).fb < Wn.heap.size := blk_lt F.blk
  have wblt := (HN.out.base _ _ F.lwb).2
  have nwf : (A.fa i).wb ≠ (A.fa i).fb := ne_of_lab F.lwb F.lfb (by simp)
  have b1 : w1.heap[(A.fa i).fb]? = some (.cells #[.int .i64 (i + 1 : Nat), (A.fa i).sd, .map (some (A.fa i).sb), (A.fa i).ad, .map (some (A.fa i).ab), .map (some (A.fa i).wb)] 144 (0, 0)) := (hbel.block _ fblt).trans F.blk
  have y3 : w1.cell? ⟨(A.fa i).fb, 3, none⟩ = some (A.fa i).ad := cell_of b1 rfl
  have y4 : w1.cell? ⟨(A.fa i).fb, 4, none⟩ = some (.map (some (A.fa i).ab)) := cell_of b1 rfl
  have y5 : w1.cell? ⟨(A.fa i).fb, 5, none⟩ = some (.map (some (A.fa i).wb)) := cell_of b1 rfl
  have y6 : w1.frozen? ⟨(A.fa i).fb, 3, none⟩ = false := frozen_of b1
  have y7 : w1.frozen? ⟨(A.fa i).fb, 4, none⟩ = false := frozen_of b1
  obtain ⟨ks, hks, _⟩ := F.waits
  have hwm : ∀ u1 u2, MapAt (Value.int .i64) ((w1.setCell ⟨(A.fa i).fb, 3, none⟩ u1).setCell ⟨(A.fa i).fb, 4, none⟩ u2) (A.fa i).wb (ks.map fun k => (k, .int .i64 1)) := fun u1 u2 =>
    hks.of_block (by rw [blk_set_ne nwf, blk_set_ne nwf]; exact hbel.block _ wblt)
  have hvs : v' = .slice none 0 0 ∨ ∃ g cap, v' = .slice (some ⟨g, 0, none⟩) f.seen.length cap := by
    rcases hrow.2 with ⟨h2, _⟩ | ⟨g, cap, cur, hv', hg', hh, r⟩
    · exact .inl h2
    · exact .inr ⟨g, cap, hv'⟩
  have hfin : Hid (∀ w3, MapAt (Value.int .i64) w3 (A.fa i).wb ([] : List (Int × Value)) → ((w1.setCell ⟨(A.fa i).fb, 3, none⟩ v').setCell ⟨(A.fa i).fb, 4, none⟩ (.map (some m'))).grownBy w3 (some (A.fa i).wb) → Ext B b lab W w3 (D.modify i FileS.sync)) := by
    intro w3 h1 h2
    exact Ext.trans f1 (fun _ _ h => h) (HN.out.syncFile HF.out hbel hrow hS hm1 hm2 hne h1 h2)
  clear hrow hS hbel hm1 hm2 hne b1 hks F x1 x2 fblt wblt
  rcases hvs with rfl | ⟨g, cap, rfl⟩ <;> (
    go_wp2_with (first | (refine wpl_clear _ rfl (.tmp 20) rfl Tryz.underlying140 rfl (hwm _ _) ?_; intro w3 hm3 hg3 hs3))
    go_end0
    exact ⟨rfl, hfin.out w3 hm3 hg3⟩)
end Go.Proofs.YtkmmlfphcfcbgaaGreatDoor.Dw
