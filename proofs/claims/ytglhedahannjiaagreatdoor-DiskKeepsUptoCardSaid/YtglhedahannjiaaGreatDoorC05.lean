/- A part of the proof of diskDown_holds: Dx, Ds, Dt1, Dt, Ed, Ei. No condition. -/
import Derived.Laws.AppendOwnNone
import Derived.Deep.Upon
import Derived.Deep.AppendSrc
import Derived.Deep.AppendLies
import Derived.Maps.AppendAt
import Derived.Test.YtglhedahannjiaaGreatDoorProg
import Derived.WalkKit
import Derived.LaidEql
import Derived.Stop.Asserts
import Derived.RowKitTokens
import Derived.KernelRfl
import Derived.Test.YtglhedahannjiaaGreatDoorC04

/- One file of a disk in memory has turned. -/
namespace Go.Proofs.YtglhedahannjiaaGreatDoor.Da
open Go.RowKit Go.ChangeMaps Go.Proofs.YtglhedahannjiaaGreatDoor.Mp Go.Proofs.YtglhedahannjiaaGreatDoor.Dm
set_option linter.unusedVariables false
set_option linter.unusedSimpArgs false
set_option linter.unusedSectionVars false
/-- A label of file i's. -/
def isOf (i : Nat) (p : Lb) : Prop := p = .file i ∨ p = .sd i ∨ p = .sb i ∨ p = .ad i ∨ p = .ab i ∨ p = .wb i
section
variable {B : Nat} {w w' : World} {b : Nat} {A : Adr} {lab lab' : Nat → Option Lb} {D : Disk}
theorem DiskAt.setFile (h : DiskAt B w b A lab D) {i : Nat} {f : FileS} (hf : D.files[i]? = some f) (g : FileS → FileS) {a' : FAdr} (hfile : FileAt w' lab' i a' (g f)) (hfb : a'.fb = (A.fa i).fb)
    (hk : ∀ k p, lab k = some p → ¬ isOf i p → w'.heap[k]? = w.heap[k]? ∧ lab' k = some p) (hn : ∀ k p, lab' k = some p → B ≤ k ∧ k < w'.heap.size) (hfr : Frm (Ft lab) w w') (hl : ∀ k, k < w.heap.size → Ft lab' k → Ft lab k) :
    Ext B b lab w w' (D.modify i g) := by
  have hfp : ∀ j, fptr (A.withFile i a') j = fptr A j := by
    intro j
    unfold fptr Adr.withFile
    simp only []
    by_cases hj : j = i
    · rw [if_pos hj, hj, hfb]
    · rw [if_neg hj]
  have hlen : (D.modify i g).files.length = D.files.length := by unfold Disk.modify; simp
  refine ⟨A.withFile i a', lab', ⟨?_, (hk _ _ h.lb (by simp [isOf])).2, ?_, (hk _ _ h.lnm (by simp [isOf])).2, ?_, (hk _ _ h.lsm (by simp [isOf])).2, ?_, ?_, ?_, hn⟩, hfr, hl⟩
  · rw [(hk _ _ h.lb (by simp [isOf])).1, h.blk]
    unfold mainCells
    rw [hlen]; rfl
  · exact (h.names.same (hk _ _ h.lnm (by simp [isOf])).1).congr (fun p _ => hfp _)
  · exact (h.sure.same (hk _ _ h.lsm (by simp [isOf])).1).congr (fun p _ => hfp _)
  · have := (h.waiting.same (w' := w') (fun k hl => (hk k _ hl (by simp [isOf])).1)).relab (lab' := lab') (fun k hl => (hk k _ hl (by simp [isOf])).2)
    rw [← chg_congr (A' := A.withFile i a') (fun c _ p _ => hfp _)] at this
    exact this
  · exact (h.fails.same (w' := w') (fun k hl => (hk k _ hl (by simp [isOf])).1)).relab (fun k hl => (hk k _ hl (by simp [isOf])).2)
  · intro j fj hj
    by_cases e : j = i
    · subst e
      have : fj = g f := by
        unfold Disk.modify at hj
        simp only [List.getElem?_modify_eq, hf, Option.map_some] at hj
        exact (Option.some.inj hj).symm
      subst this
      have e : (A.withFile j a').fa j = a' := by unfold Adr.withFile; simp
      rw [e]
      exact hfile
    · have hj' : D.files[j]? = some fj := by
        unfold Disk.modify at hj
        simpa [List.getElem?_modify, Ne.symm e] using hj
      have hno : ∀ p, (p = .file j ∨ p = .sd j ∨ p = .sb j ∨ p = .ad j ∨ p = .ab j ∨ p = .wb j) → ¬ isOf i p := by
        rintro p (rfl | rfl | rfl | rfl | rfl | rfl) <;> simp [isOf, e]
      have h1 := (h.files j fj hj').same (w' := w') (fun k p hl hp => (hk k p hl (hno p hp)).1)
      have h2 := h1.relab (lab' := lab') (fun k p hl hp => (hk k p hl (hno p hp)).2)
      have e : (A.withFile i a').fa j = A.fa j := by unfold Adr.withFile; simp [e]
      rw [e]
      exact h2
/-- The file that a name leads to. -/
theorem WF.file (hw : WF D) {n : Name} {i : Nat} (hi : find D.now n = some i) : ∃ f, D.files[i]? = some f := by
  have := hw.nowI (n, i) ((find_mem hw.nowN n i).1 hi)
  exact ⟨D.files[i], List.getElem?_eq_getElem this⟩
theorem ownsRow.low {w : World} {base e size n : Nat} {v : Value} {xs : List Value} (h : w.ownsRow base e size v n xs) : w.ownsRow 0 e size v n xs := by
  refine ⟨h.1, ?_⟩
  rcases h.2 with h2 | ⟨g, cap, cur, hv, hg, r⟩
  · exact .inl h2
  · exact .inr ⟨g, cap, cur, hv, Nat.zero_le _, r⟩
theorem ownsRow.at {w : World} {base e size n : Nat} {v : Value} {xs : List Value} (h : w.ownsRow base e size v n xs) {g : Nat} (hg : v.ownBlock = some g) : base ≤ g ∧ g < w.heap.size := by
  rcases h.2 with ⟨h2, _⟩ | ⟨g', cap, cur, hv, hg', hh, r⟩
  · rw [h2] at hg; simp [Value.ownBlock] at hg
  · rw [hv] at hg
    have : g' = g := by simpa [Value.ownBlock] using hg
    subst this
    exact ⟨hg', blk_lt hh⟩
theorem ownsRow.same {w w' : World} {base e size n : Nat} {v : Value} {xs : List Value} (h : w.ownsRow base e size v n xs) (hk : ∀ g, v.ownBlock = some g → w'.heap[g]? = w.heap[g]?) : w'.ownsRow base e size v n xs := by
  refine ⟨h.1, ?_⟩
  rcases h.2 with h2 | ⟨g', cap, cur, hv, hg', hh, r⟩
  · exact .inl h2
  · exact .inr ⟨g', cap, cur, hv, hg', by rw [hk g' (by rw [hv]; rfl)]; exact hh, r⟩
/-- Sync's labels. -/
def syncLab (lab : Nat → Option Lb) (i : Nat) (g : Option Nat) (m : Nat) : Nat → Option Lb := fun k =>
  if some k = g then some (.ad i) else if k = m then some (.ab i) else if lab k = some (.ad i) ∨ lab k = some (.ab i) then none else lab k
/-- A file's bytes are made safe: safe's row and set are new, the waiting sectors are none. -/
theorem DiskAt.syncFile (h : DiskAt B w b A lab D) {i : Nat} {f : FileS} (hf : D.files[i]? = some f) {w1 w3 : World} (hb : Below w.heap.size w w1) {v' : Value} {m' : Nat} (hrow : w1.ownsRow w.heap.size 5 1 v' f.seen.length (u8s f.seen)) (hS : SetAt w1 m' f.badSeen)
    (hm1 : w.heap.size ≤ m') (hm2 : m' < w1.heap.size) (hne : v'.ownBlock ≠ some m') (hw : MapAt (Value.int .i64) w3 (A.fa i).wb ([] : List (Int × Value)))
    (hg : ((w1.setCell ⟨(A.fa i).fb, 3, none⟩ v').setCell ⟨(A.fa i).fb, 4, none⟩ (.map (some m'))).grownBy w3 (some (A.fa i).wb)) : Ext B b lab w w3 (D.modify i FileS.sync) := by
  have F := h.files i f hf
  have hsz : w.heap.size ≤ w1.heap.size := hb.size
  have hs3 : w1.heap.size ≤ w3.heap.size := by have := hg.size; simpa using this
  have fblt : (A.fa i).fb < w.heap.size := (h.base _ _ F.lfb).2
  have hnew : ∀ k, w.heap.size ≤ k → k < w1.heap.size → w3.heap[k]? = w1.heap[k]? := by
    intro k h1 h2
    rw [hg.block k (by simp; omega) (by intro e; have := Option.some.inj e; have := (h.base _ _ F.lwb).2; omega), blk_set_ne (by omega), blk_set_ne (by omega)]
  have hold : ∀ k p, lab k = some p → p ≠ .file i → p ≠ .wb i → w3.heap[k]? = w.heap[k]? := by
    intro k p hl h1 h2
    have hlt := (h.base k p hl).2
    have n1 : k ≠ (A.fa i).fb := ne_of_lab hl F.lfb h1
    have n2 : k ≠ (A.fa i).wb := ne_of_lab hl F.lwb h2
    rw [hg.block k (by simp; omega) (by simpa using n2), blk_set_ne n1, blk_set_ne n1, hb.block k hlt]
  have hgnew : ∀ g, v'.ownBlock = some g → w.heap.size ≤ g ∧ g < w1.heap.size := fun g e => ownsRow.at hrow e
  have hlabOld : ∀ k p, lab k = some p → p ≠ .ad i → p ≠ .ab i → syncLab lab i v'.ownBlock m' k = some p := by
    intro k p hl h1 h2
    have hlt := (h.base k p hl).2
    unfold syncLab
    rw [if_neg (by intro e; have := (hgnew k e.symm).1; omega), if_neg (by omega), if_neg (by rw [hl]; simp [h1, h2]), hl]
  refine h.setFile hf FileS.sync (a' := { A.fa i with ad := v', ab := m' }) (lab' := syncLab lab i v'.ownBlock m') ⟨?_, hlabOld _ _ F.lfb (by simp) (by simp), ?_, ?_, ?_, hlabOld _ _ F.lsb (by simp) (by simp), ?_, ?_, ?_, hlabOld _ _ F.lwb (by simp) (by simp)⟩ rfl ?_ ?_ ?_ ?_
  · have : w1.heap[(A.fa i).fb]? = some _ := (hb.block _ fblt).trans F.blk
    rw [hg.block _ (by simp; omega) (by simpa using ne_of_lab F.lfb F.lwb (by simp)), blk_set (blk_set this)]
    rfl
  · exact (F.seen.same (w' := w3) (fun k hl => hold k _ hl (by simp) (by simp))).relab (fun k hl => hlabOld k _ hl (by simp) (by simp))
  · refine ⟨ownsRow.low (ownsRow.same hrow (fun g e => hnew g (hgnew g e).1 (hgnew g e).2)), fun g e => ?_⟩
    unfold syncLab; rw [if_pos e.symm]
  · exact F.badSeen.same (hold _ _ F.lsb (by simp) (by simp))
  · exact hS.same (hnew _ hm1 hm2)
  · show syncLab lab i v'.ownBlock m' m' = _
    unfold syncLab
    rw [if_neg (fun e => hne e.symm), if_pos rfl]
  · exact SetAt.none hw
  · intro k p hl hp
    have hno : p ≠ .file i ∧ p ≠ .wb i ∧ p ≠ .ad i ∧ p ≠ .ab i := by
      refine ⟨?_, ?_, ?_, ?_⟩ <;> (rintro rfl; exact hp (by simp [isOf]))
    exact ⟨hold k p hl hno.1 hno.2.1, hlabOld k p hl hno.2.2.1 hno.2.2.2⟩
  · intro k p hl
    have hB : B ≤ w.heap.size := Nat.le_of_lt (Nat.lt_of_le_of_lt (h.base b _ h.lb).1 (h.base b _ h.lb).2)
    unfold syncLab at hl
    by_cases e1 : some k = v'.ownBlock
    · have := hgnew k e1.symm; omega
    · rw [if_neg e1] at hl
      by_cases e2 : k = m'
      · omega
      · rw [if_neg e2] at hl
        by_cases e3 : lab k = some (.ad i) ∨ lab k = some (.ab i)
        · rw [if_pos e3] at hl; cases hl
        · rw [if_neg e3] at hl
          have := h.base k p hl; omega
  · have f1 : Frm (Ft lab) w ((w1.setCell ⟨(A.fa i).fb, 3, none⟩ v').setCell ⟨(A.fa i).fb, 4, none⟩ (.map (some m'))) :=
      ((Frm.of_below hb _).setCell _ _ (fun _ => by unfold Ft; rw [F.lfb]; rfl)).setCell _ _ (fun _ => by unfold Ft; rw [F.lfb]; rfl)
    exact f1.grown hg (fun k e _ => by unfold Ft; rw [← Option.some.inj e, F.lwb]; rfl)
  · intro k hlt hl
    unfold Ft syncLab at hl
    by_cases e1 : some k = v'.ownBlock
    · have := hgnew k e1.symm; omega
    · rw [if_neg e1] at hl
      by_cases e2 : k = m'
      · omega
      · rw [if_neg e2] at hl
        by_cases e3 : lab k = some (.ad i) ∨ lab k = some (.ab i)
        · rw [if_pos e3] at hl; cases hl
        · rw [if_neg e3] at hl; exact hl
end
end Go.Proofs.YtglhedahannjiaaGreatDoor.Da

/- Sets of sectors: one more, one less; bytes behind a row. -/
namespace Go.Proofs.YtglhedahannjiaaGreatDoor.Dw
open Go.RowKit Go.ChangeMaps Go.Proofs.YtglhedahannjiaaGreatDoor.Mp Go.Proofs.YtglhedahannjiaaGreatDoor.Dm Go.Proofs.YtglhedahannjiaaGreatDoor.Da
set_option linter.unusedVariables false
set_option linter.unusedSimpArgs false
set_option linter.unusedSectionVars false
theorem setL_ent_mem {ks : List Int} {y : Int} (h : y ∈ ks) : setL (ent ks) y (.int .i64 1) = ent ks := by
  induction ks with
  | nil => cases h
  | cons k ks ih =>
    unfold ent at ih ⊢
    simp only [List.map_cons]
    rw [setL_cons]
    by_cases e : k = y
    · simp [e]
    · rcases List.mem_cons.1 h with h1 | h1
      · exact absurd h1.symm e
      · simp only [e, if_false]; rw [ih h1]
theorem delL_ent {ks : List Int} {y : Int} : delL (ent ks) y = ent (ks.erase y) := by
  induction ks with
  | nil => rfl
  | cons k ks ih =>
    unfold ent at ih ⊢
    simp only [List.map_cons]
    rw [delL_cons]
    by_cases e : k = y
    · simp [e]
    · simp only [e, if_false]; rw [ih, List.erase_cons_tail (by simpa using e)]; rfl
/-- One sector more. -/
theorem SetAt.ins {w : World} {m : Nat} {S : Nat → Bool} {ks : List Int} (hnd : ks.Nodup) (hmem : ∀ k : Int, k ∈ ks ↔ 0 ≤ k ∧ S k.toNat = true) (y : Nat) (h : MapAt (Value.int .i64) w m (setL (ent ks) (y : Int) (.int .i64 1))) :
    SetAt w m (fun j => S j || decide (j = y)) := by
  by_cases hy : (y : Int) ∈ ks
  · rw [setL_ent_mem hy] at h
    refine ⟨ks, h, hnd, fun k => ?_⟩
    rw [hmem k]
    constructor
    · rintro ⟨h1, h2⟩; exact ⟨h1, by simp [h2]⟩
    · rintro ⟨h1, h2⟩
      refine ⟨h1, ?_⟩
      rcases Bool.or_eq_true _ _ ▸ h2 with h3 | h3
      · exact h3
      · have : k = (y : Int) := by have := of_decide_eq_true h3; omega
        rw [this] ; exact ((hmem y).1 hy).2
  · rw [setL_ent hy] at h
    refine ⟨ks ++ [(y : Int)], h, ?_, fun k => ?_⟩
    · rw [List.nodup_append]
      exact ⟨hnd, by simp, by rintro a ha b hb rfl; exact hy (by simpa using (by simpa using hb : a = (y : Int)) ▸ ha)⟩
    · rw [List.mem_append, hmem k, List.mem_singleton]
      constructor
      · rintro (⟨h1, h2⟩ | h1)
        · exact ⟨h1, by simp [h2]⟩
        · subst h1; exact ⟨by omega, by simp⟩
      · rintro ⟨h1, h2⟩
        rcases Bool.or_eq_true _ _ ▸ h2 with h3 | h3
        · exact .inl ⟨h1, h3⟩
        · right; have := of_decide_eq_true h3; omega
/-- One sector less. -/
theorem SetAt.del {w : World} {m : Nat} {S : Nat → Bool} {ks : List Int} (hnd : ks.Nodup) (hmem : ∀ k : Int, k ∈ ks ↔ 0 ≤ k ∧ S k.toNat = true) (y : Nat) (h : MapAt (Value.int .i64) w m (delL (ent ks) (y : Int))) :
    SetAt w m (fun j => S j && !decide (j = y)) := by
  rw [delL_ent] at h
  refine ⟨ks.erase y, h, hnd.erase _, fun k => ?_⟩
  rw [hnd.mem_erase_iff, hmem k]
  constructor
  · rintro ⟨h1, h2, h3⟩
    refine ⟨h2, ?_⟩
    show (S k.toNat && !decide (k.toNat = y)) = true
    rw [h3]; simp; omega
  · rintro ⟨h1, h2⟩
    simp only [Bool.and_eq_true, Bool.not_eq_true', decide_eq_false_iff_not] at h2
    exact ⟨by omega, h1, h2.1⟩
theorem SetAt.congr {w : World} {m : Nat} {S T : Nat → Bool} (h : SetAt w m S) (e : ∀ j, S j = T j) : SetAt w m T := by
  have : S = T := funext e
  rwa [← this]
/-- Bytes come out of a slice. -/
def FromAt (w : World) (v : Value) (xs : List Int) : Prop := (v = .slice none 0 0 ∧ xs = []) ∨ (∃ a off c, v = .slice (some ⟨a, off, none⟩) xs.length c ∧ ∀ j u, (u8s xs)[j]? = some u → w.cell? ⟨a, off + j, none⟩ = some u) ∨ ∃ p c, v = .slice p 0 c ∧ xs = []
section
variable {w : World} {ops : Array Oper} {rest : List Oper} {o : Oper} {a : Act} {Q : Exit → Act → World → Prop}
/-- Bytes behind a row of bytes, whatever the source (none of them too). -/
theorem wpl_append_bytes (hgd : o.guard = none) (s x : Operand) (ho : o.op = .call { callee := .builtin .append, args := #[s, x], argTypes := #[22, 22] })
    {v : Value} {xs : List Int} (hs : a.eval s = v) (hown : w.ownsRow 0 5 1 v xs.length (u8s xs)) {xv : Value} {ys : List Int} (hx : a.eval x = xv) (hy : FromAt w xv ys) (hlen : xs.length + ys.length ≤ 140737488355328)
    (h : ∀ p c w', w'.ownsRow 0 5 1 (.slice p (xs.length + ys.length) c) (xs ++ ys).length (u8s (xs ++ ys)) → w.grownBy w' v.ownBlock →
      ((Value.slice p (xs.length + ys.length) c).ownBlock = v.ownBlock ∨ ∀ g, (Value.slice p (xs.length + ys.length) c).ownBlock = some g → w.heap.size ≤ g ∧ g < w'.heap.size) → wpList Tryz.prog ops Q rest (a.put o.dst (.slice p (xs.length + ys.length) c)) w') :
    wpList Tryz.prog ops Q (o :: rest) a w := by
  obtain ⟨i0, hi0, hz0, hz1, hz2⟩ := info_parts byteInfo
  have hmx : maxLen = 9223372036854775807 := by decide
  have hform : ∃ p c, v = .slice p xs.length c ∧ xs.length ≤ c := by
    rcases hown.2 with ⟨h1, h2⟩ | ⟨g, cap, cur, hv, _, _, h3, _⟩
    · exact ⟨none, 0, by rw [h1, h2], by omega⟩
    · exact ⟨_, _, hv, h3⟩
  by_cases h0 : ys = []
  · subst h0
    obtain ⟨p, c, rfl, hc⟩ := hform
    have hsrc : Src Tryz.prog i0.size 22 xv 0 [] w := by
      rcases hy with ⟨rfl, _⟩ | ⟨b, off, cc, rfl, _⟩ | ⟨ad, cc, rfl, _⟩
      · exact Src.ofNil w Tryz.underlying22 0
      · exact Src.ofSlice w Tryz.underlying22 ⟨b, off, none⟩ 0 cc [] (by simp) (by simp) (by simp)
      · cases ad with
        | none => exact Src.ofNil w Tryz.underlying22 cc
        | some ad => exact Src.ofSlice w Tryz.underlying22 ad 0 cc [] (by simp) (by simp) (by simp)
    have hrun := run_append_nothing w 22 22 o.type 5 i0 Tryz.underlying22 hi0 p xs.length c hc xv hsrc
    refine wpList_plain hgd fun K hK => ?_
    unfold Oper.wp
    simp only [execOp, ho, resolve, invoke, builtin, Sem.run_bind, Sem.run_pure, Result.andThen_ok, List.map_toArray, List.map_cons, List.map_nil, hs, hx, hrun]
    exact hK _ _ (h p c w (by simpa using hown) (World.grownBy.refl _ _) (.inl rfl))
  · rcases hy with ⟨_, h1⟩ | ⟨b, off, cc, rfl, hc⟩ | ⟨_, _, _, h1⟩
    · exact absurd h1 h0
    rotate_left
    · exact absurd h1 h0
    · have hpos : 0 < ys.length := List.length_pos_iff.2 h0
      refine wpList_append_lies w hgd s x 22 ho 0 5 i0 _ 1 1 Tryz.underlying22 hi0 hz0 hz1 hz2 rfl (by omega) v xs.length (u8s xs) hs hown ⟨b, off, none⟩ ys.length cc (u8s ys) hx (by simp [u8s]) (fun j u hu => by
        have := hc j u hu
        have e : (⟨b, off, none⟩ : Addr).add j = ⟨b, off + j, none⟩ := by unfold Addr.add; split <;> simp_all
        rw [e]; exact this) mem_oneCell hpos (by omega) (by omega) (Nat.zero_le _) w.heap.size rfl ?_
      intro g cap w' h2 h3 h4 h5
      refine h _ _ w' (by simpa [u8s] using h2) h3 ?_
      rcases h4 with h4 | h4
      · exact .inl h4.symm
      · refine .inr fun g' e => ?_
        have : g = g' := by simpa [Value.ownBlock] using e
        omega
end
end Go.Proofs.YtglhedahannjiaaGreatDoor.Dw

/- Bytes behind a file's: what the memory is then. -/
namespace Go.Proofs.YtglhedahannjiaaGreatDoor.Da
open Go.RowKit Go.ChangeMaps Go.Proofs.YtglhedahannjiaaGreatDoor.Mp Go.Proofs.YtglhedahannjiaaGreatDoor.Dm
set_option linter.unusedVariables false
set_option linter.unusedSimpArgs false
set_option linter.unusedSectionVars false
section
variable {B : Nat} {w : World} {b : Nat} {A : Adr} {lab : Nat → Option Lb} {D : Disk}
theorem DiskAt.addFile (h : DiskAt B w b A lab D) {i : Nat} {f : FileS} (hf : D.files[i]? = some f) {w1 w3 : World} {v' : Value} {xs : List Int} {bs ws : Nat → Bool} (hrow : w1.ownsRow 0 5 1 v' xs.length (u8s xs)) (hg : w.grownBy w1 (A.fa i).sd.ownBlock)
    (hat : v'.ownBlock = (A.fa i).sd.ownBlock ∨ ∀ g, v'.ownBlock = some g → w.heap.size ≤ g ∧ g < w1.heap.size) (hfr : Frm (fun x => x = (A.fa i).sb ∨ x = (A.fa i).wb) (w1.setCell ⟨(A.fa i).fb, 1, none⟩ v') w3) (hS1 : SetAt w3 (A.fa i).sb bs) (hS2 : SetAt w3 (A.fa i).wb ws)
    (g : FileS → FileS) (hgf : g f = { f with seen := xs, badSeen := bs, waits := ws }) : Ext B b lab w w3 (D.modify i g) := by
  have F := h.files i f hf
  have hsz : w.heap.size ≤ w1.heap.size := hg.size
  have hs3 : w1.heap.size ≤ w3.heap.size := by have := hfr.size; simpa using this
  have hB : B ≤ w.heap.size := Nat.le_of_lt (Nat.lt_of_le_of_lt (h.base b _ h.lb).1 (h.base b _ h.lb).2)
  have hlow : ∀ k, v'.ownBlock = some k → lab k = some (.sd i) ∨ lab k = none := by
    intro k hk
    rcases hat with h1 | h1
    · exact .inl (F.seen.lab k (by rw [← h1]; exact hk))
    · right
      rcases hl : lab k with _ | p
      · rfl
      · have := (h.base k p hl).2
        have := (h1 k hk).1
        omega
  have hml : ∀ k q, lab k = some q → q ≠ .sd i → moveLab lab (.sd i) v'.ownBlock k = some q := fun k q hl hq => moveLab_other hq hl hlow
  have hold : ∀ k p, lab k = some p → p ≠ .sd i → p ≠ .file i → p ≠ .sb i → p ≠ .wb i → w3.heap[k]? = w.heap[k]? := by
    intro k p hl h1 h2 h3 h4
    have hlt := (h.base k p hl).2
    rw [hfr.block k (by simp; omega) (fun e => e.elim (ne_of_lab hl F.lsb h3) (ne_of_lab hl F.lwb h4)), blk_set_ne (ne_of_lab hl F.lfb h2), hg.block k hlt]
    intro e
    have := F.seen.lab k e.symm
    rw [hl] at this; exact h1 (Option.some.inj this)
  refine h.setFile hf g (a' := { A.fa i with sd := v' }) (lab' := moveLab lab (.sd i) v'.ownBlock) ?_ rfl ?_ ?_ ?_ ?_
  · rw [hgf]
    refine ⟨?_, hml _ _ F.lfb (by simp), ?_, ?_, hS1, hml _ _ F.lsb (by simp), ?_, hml _ _ F.lab_ (by simp), hS2, hml _ _ F.lwb (by simp)⟩
    · have hb1 : w1.heap[(A.fa i).fb]? = _ := (hg.block _ (h.base _ _ F.lfb).2 (by intro e; have := F.seen.lab _ e.symm; rw [F.lfb] at this; cases this)).trans F.blk
      show w3.heap[(A.fa i).fb]? = _
      rw [hfr.block _ (by have := (h.base _ _ F.lfb).2; simp; omega) (fun e => e.elim (ne_of_lab F.lfb F.lsb (by simp)) (ne_of_lab F.lfb F.lwb (by simp))), blk_set hb1]
      rfl
    · refine ⟨ownsRow.same hrow ?_, fun k hk => by unfold moveLab; rw [if_pos hk.symm]⟩
      intro k hk
      have hkl : k < w1.heap.size := (ownsRow.at hrow hk).2
      have hne : k ≠ (A.fa i).fb := by
        rintro rfl
        rcases hlow _ hk with e | e <;> rw [F.lfb] at e <;> cases e
      have hne2 : ¬ (k = (A.fa i).sb ∨ k = (A.fa i).wb) := by
        rintro (rfl | rfl)
        · rcases hlow _ hk with e | e <;> rw [F.lsb] at e <;> cases e
        · rcases hlow _ hk with e | e <;> rw [F.lwb] at e <;> cases e
      rw [hfr.block k (by simpa using hkl) hne2, blk_set_ne hne]
    · exact (F.safe.same (w' := w3) (fun k hl => hold k _ hl (by simp) (by simp) (by simp) (by simp))).relab (fun k hl => hml k _ hl (by simp))
    · exact F.badSafe.same (hold _ _ F.lab_ (by simp) (by simp) (by simp) (by simp))
  · intro k p hl hp
    have hno : p ≠ .sd i ∧ p ≠ .file i ∧ p ≠ .sb i ∧ p ≠ .wb i := by
      refine ⟨?_, ?_, ?_, ?_⟩ <;> (rintro rfl; exact hp (by simp [isOf]))
    exact ⟨hold k p hl hno.1 hno.2.1 hno.2.2.1 hno.2.2.2, hml k p hl hno.1⟩
  · intro k p hl
    unfold moveLab at hl
    by_cases e : some k = v'.ownBlock
    · have hk := ownsRow.at hrow e.symm
      rcases hat with h1 | h1
      · have := h.base k _ (F.seen.lab k (by rw [← h1]; exact e.symm)); omega
      · have := h1 k e.symm; omega
    · rw [if_neg e] at hl
      by_cases e2 : lab k = some (.sd i)
      · rw [if_pos e2] at hl; cases hl
      · rw [if_neg e2] at hl
        have := h.base k p hl; omega
  · have f1 : Frm (Ft lab) w (w1.setCell ⟨(A.fa i).fb, 1, none⟩ v') := by
      refine Frm.setCell ?_ _ _ (fun _ => by unfold Ft; rw [F.lfb]; rfl)
      exact (Frm.of_grown hg).mono (fun k _ e => by unfold Ft; rw [F.seen.lab k e.symm]; rfl)
    exact f1.trans hfr (fun k _ e => e.elim (fun e => by unfold Ft; rw [e, F.lsb]; rfl) (fun e => by unfold Ft; rw [e, F.lwb]; rfl))
  · intro k hlt hl
    unfold Ft moveLab at hl
    by_cases e : some k = v'.ownBlock
    · rcases hat with h1 | h1
      · unfold Ft; rw [F.seen.lab k (by rw [← h1]; exact e.symm)]; rfl
      · have := (h1 k e.symm).1; omega
    · rw [if_neg e] at hl
      by_cases e2 : lab k = some (.sd i)
      · unfold Ft; rw [e2]; rfl
      · rw [if_neg e2] at hl; exact hl
end
end Go.Proofs.YtglhedahannjiaaGreatDoor.Da

/- Walks: sectors, add. -/
namespace Go.Proofs.YtglhedahannjiaaGreatDoor.Dw
open Go.RowKit Go.ChangeMaps Go.Proofs.YtglhedahannjiaaGreatDoor.Mp Go.Proofs.YtglhedahannjiaaGreatDoor.Dm Go.Proofs.YtglhedahannjiaaGreatDoor.Da
set_option linter.unusedVariables false
set_option linter.unusedSimpArgs false
set_option linter.unusedSectionVars false
set_option maxRecDepth 100000 in
theorem sectors_calls (n : Nat) (hn : n ≤ 4611686018427387904) (w : World) :
    Calls Tryz.prog 70 #[.int .i64 n] w fun e w' => e = .returned (.int .i64 (sectors n)) ∧ w' = w := by
  have e1 : Int.tdiv ((n : Int) + 511) 512 = ((sectors n : Nat) : Int) := by
    rw [Int.tdiv_eq_ediv_of_nonneg (by omega)]; unfold sectors; omega
  go_enter Tryz.func70, Tryz.ntmps70
  go_wp2
  go_ret
  refine ⟨?_, rfl⟩
  show Ending.returned (Value.int .i64 (((n : Int) + 512 - 1) / 512)) = _
  congr 2
  unfold sectors; omega
theorem FromAt.form {w : World} {v : Value} {xs : List Int} (h : FromAt w v xs) : ∃ p c, v = .slice p xs.length c := by
  rcases h with ⟨rfl, rfl⟩ | ⟨a, off, c, rfl, _⟩ | ⟨a, c, rfl, rfl⟩
  · exact ⟨none, 0, rfl⟩
  · exact ⟨_, _, rfl⟩
  · exact ⟨_, _, rfl⟩
theorem row_form {w : World} {base : Nat} {v : Value} {n : Nat} {xs : List Value} (h : w.ownsRow base 5 1 v n xs) : ∃ p c, v = .slice p n c := by
  rcases h.2 with ⟨h1, h2⟩ | ⟨g, cap, cur, hv, _⟩
  · exact ⟨none, 0, by rw [h1, h2]⟩
  · exact ⟨_, _, hv⟩
theorem add_mid {B : Nat} {w : World} {b : Nat} {A : Adr} {lab : Nat → Option Lb} {D : Disk} (h : DiskAt B w b A lab D) {i : Nat} {f : FileS} (hf : D.files[i]? = some f) {w1 : World} (hg : w.grownBy w1 (A.fa i).sd.ownBlock) (v' : Value) :
    (w1.setCell ⟨(A.fa i).fb, 1, none⟩ v').heap[(A.fa i).fb]? = some (.cells #[.int .i64 (i + 1 : Nat), v', .map (some (A.fa i).sb), (A.fa i).ad, .map (some (A.fa i).ab), .map (some (A.fa i).wb)] 104 (0, 0)) ∧
      SetAt (w1.setCell ⟨(A.fa i).fb, 1, none⟩ v') (A.fa i).sb f.badSeen ∧ SetAt (w1.setCell ⟨(A.fa i).fb, 1, none⟩ v') (A.fa i).wb f.waits := by
  have F := h.files i f hf
  have hk : ∀ k p, lab k = some p → p ≠ .sd i → w1.heap[k]? = w.heap[k]? := fun k p hl hp => hg.block k (h.base k p hl).2 (by
    intro e
    have := F.seen.lab k e.symm
    rw [hl] at this; exact hp (Option.some.inj this))
  refine ⟨?_, F.badSeen.same ?_, F.waits.same ?_⟩
  · rw [blk_set ((hk _ _ F.lfb (by simp)).trans F.blk)]; rfl
  · rw [blk_set_ne (ne_of_lab F.lsb F.lfb (by simp)), hk _ _ F.lsb (by simp)]
  · rw [blk_set_ne (ne_of_lab F.lwb F.lfb (by simp)), hk _ _ F.lwb (by simp)]
set_option maxHeartbeats 1000000 in
set_option maxRecDepth 100000 in
theorem add_calls {B : Nat} {w : World} {b : Nat} {A : Adr} {lab : Nat → Option Lb} {D : Disk} (h : DiskAt B w b A lab D) {i : Nat} {f : FileS} (hf : D.files[i]? = some f) (v : Value) (data : List Int) (hv : FromAt w v data) (hlen : f.seen.length + data.length ≤ 8796093022208) :
    Calls Tryz.prog 55 #[fptr A i, v] w fun e w' => e = .returned (.tuple #[]) ∧ Ext B b lab w w' (D.modify i (FileS.add data)) := by
  have F := h.files i f hf
  obtain ⟨pv, cv, hvf⟩ := hv.form
  obtain ⟨p0, c0, hsd⟩ := row_form F.seen.row
  have x1 : w.cell? ⟨(A.fa i).fb, 1, none⟩ = some (A.fa i).sd := cell_of F.blk rfl
  rw [hsd] at x1
  have hown := F.seen.row
  have fblt := blk_lt F.blk
  have hnfb : (A.fa i).sd.ownBlock ≠ some (A.fa i).fb := fun e => by have := F.seen.lab _ e; rw [F.lfb] at this; cases this
  have H := Lib.hid h
  have HF := Lib.hid hf
  have HFile := Lib.hid F
  clear h hf F
  unfold fptr
  by_cases hd : data = []
  · subst hd
    have hlen0 : f.seen.length + 0 ≤ 140737488355328 := by omega
    rw [hvf] at hv ⊢
    rw [hsd] at hown
    go_enter Tryz.func55, Tryz.ntmps55
    go_wp2_with (first | (refine wpl_append_bytes (v := .slice p0 f.seen.length c0) rfl (.tmp 17) (.tmp 18) rfl rfl hown rfl hv hlen0 ?_; intro p c w1 hr hg hat; have y1 : w1.cell? ⟨(A.fa i).fb, 1, none⟩ = w.cell? ⟨(A.fa i).fb, 1, none⟩ := hg.cell_far _ fblt (by rw [← hsd]; exact Ne.symm hnfb); have y2 : w1.frozen? ⟨(A.fa i).fb, 1, none⟩ = w.frozen? ⟨(A.fa i).fb, 1, none⟩ := hg.frozen_far _ fblt (by rw [← hsd]; exact Ne.symm hnfb); rw [x1] at y1; rw [frozen_of HFile.out.blk] at y2))
    refine bodyPost_ret (results_none rfl _ _ _) rfl ⟨rfl, ?_⟩
    rw [← hsd] at hg hat
    obtain ⟨_, m1, m2⟩ := add_mid H.out HF.out hg (.slice p f.seen.length c)
    exact H.out.addFile HF.out (xs := f.seen) (by simpa using hr) hg hat (Frm.refl _ _) m1 m2 (FileS.add []) (by simp [FileS.add])
  · have hdl : 0 < data.length := List.length_pos_iff.2 hd
    have hlen0 : f.seen.length + data.length ≤ 140737488355328 := by omega
    have hb0 : ((data.length : Int) == 0) = false := by
      rw [beq_eq_false_iff_ne]; omega
    have e1 : Int.tdiv (f.seen.length : Int) 512 = (f.seen.length : Int) / 512 := Int.tdiv_eq_ediv_of_nonneg (by omega)
    rw [hvf] at hv ⊢
    rw [hsd] at hown
    go_enter Tryz.func55, Tryz.ntmps55
    go_wp2_with (first | (refine wpl_append_bytes (v := .slice p0 f.seen.length c0) rfl (.tmp 17) (.tmp 18) rfl rfl hown rfl hv hlen0 ?_; intro p c w1 hr hg hat; have y1 : w1.cell? ⟨(A.fa i).fb, 1, none⟩ = w.cell? ⟨(A.fa i).fb, 1, none⟩ := hg.cell_far _ fblt (by rw [← hsd]; exact Ne.symm hnfb); have y2 : w1.frozen? ⟨(A.fa i).fb, 1, none⟩ = w.frozen? ⟨(A.fa i).fb, 1, none⟩ := hg.frozen_far _ fblt (by rw [← hsd]; exact Ne.symm hnfb); rw [x1] at y1; rw [frozen_of HFile.out.blk] at y2))
    rw [← hsd] at hg hat
    obtain ⟨m0, m1, m2⟩ := add_mid H.out HF.out hg (.slice p (f.seen.length + data.length) c)
    have hfin : Hid (∀ w3 bs ws, Frm (fun x => x = (A.fa i).sb ∨ x = (A.fa i).wb) (w1.setCell ⟨(A.fa i).fb, 1, none⟩ (.slice p (f.seen.length + data.length) c)) w3 → SetAt w3 (A.fa i).sb bs → SetAt w3 (A.fa i).wb ws →
        (∀ j, bs j = (f.badSeen j && !(decide (f.seen.length / 512 ≤ j) && decide (j < sectors (f.seen.length + data.length))))) → (∀ j, ws j = (f.waits j || (decide (f.seen.length / 512 ≤ j) && decide (j < sectors (f.seen.length + data.length))))) → Ext B b lab w w3 (D.modify i (FileS.add data))) := by
      intro w3 bs ws h1 h2 h3 h4 h5
      refine H.out.addFile HF.out (xs := f.seen ++ data) (bs := bs) (ws := ws) (by simpa using hr) hg hat h1 h2 h3 (FileS.add data) ?_
      have e4 : bs = fun j => (f.badSeen j && !(decide (f.seen.length / 512 ≤ j) && decide (j < sectors (f.seen.length + data.length)))) := funext h4
      have e5 : ws = fun j => (f.waits j || (decide (f.seen.length / 512 ≤ j) && decide (j < sectors (f.seen.length + data.length)))) := funext h5
      unfold FileS.add
      rw [if_neg hd, e4, e5]
    clear hr hg hat y1 y2 hown hv x1
    generalize w1.setCell ⟨(A.fa i).fb, 1, none⟩ (.slice p (f.seen.length + data.length) c) = W2 at *
    have fb2 := blk_lt m0
    have sb2 : (A.fa i).sb < W2.heap.size := by obtain ⟨_, hm, _⟩ := m1; exact hm.lt
    have wb2 : (A.fa i).wb < W2.heap.size := by obtain ⟨_, hm, _⟩ := m2; exact hm.lt
    have nfs : ¬ ((A.fa i).fb = (A.fa i).sb ∨ (A.fa i).fb = (A.fa i).wb) := fun e => e.elim (ne_of_lab HFile.out.lfb HFile.out.lsb (by simp)) (ne_of_lab HFile.out.lfb HFile.out.lwb (by simp))
    have nsw : (A.fa i).sb ≠ (A.fa i).wb := ne_of_lab HFile.out.lsb HFile.out.lwb (by simp)
    have M0 := Lib.hid m0
    have M1 := Lib.hid m1
    have M2 := Lib.hid m2
    clear m0 m1 m2
    generalize hL : f.seen.length / 512 = L at *
    have hL2 : (f.seen.length : Int) / 512 = (L : Int) := by omega
    rw [hL2]
    generalize hT : sectors (f.seen.length + data.length) = T at *
    have hT2 : L ≤ T := by rw [← hL, ← hT]; unfold sectors; omega
    have hT3 : T ≤ 4611686018427387904 := by rw [← hT]; unfold sectors; omega
    go_loopw [5] (fun v wr => ∃ k : Nat, v = .int .i64 k ∧ L ≤ k ∧ k ≤ T ∧ Frm (fun x => x = (A.fa i).sb ∨ x = (A.fa i).wb) W2 wr ∧ SetAt wr (A.fa i).sb (fun j => f.badSeen j && !(decide (L ≤ j) && decide (j < k))) ∧ SetAt wr (A.fa i).wb (fun j => f.waits j || (decide (L ≤ j) && decide (j < k)))) (fun v _ => T - (intOf v).toNat)
    case atStart =>
      refine ⟨L, rfl, Nat.le_refl _, hT2, Frm.refl _ _, SetAt.congr M1.out ?_, SetAt.congr M2.out ?_⟩ <;> (intro j; by_cases h1 : L ≤ j <;> by_cases h2 : j < L <;> simp [h1, h2] <;> omega)
    case round =>
      obtain ⟨k, rfl, hk1, hk2, hfr, hs1, hs2⟩ := hrel
      have z1 : wr.cell? ⟨(A.fa i).fb, 1, none⟩ = some (.slice p (f.seen.length + data.length) c) := (hfr.cell fb2 nfs).trans (cell_of M0.out rfl)
      have z2 : wr.cell? ⟨(A.fa i).fb, 2, none⟩ = some (.map (some (A.fa i).sb)) := (hfr.cell fb2 nfs).trans (cell_of M0.out rfl)
      have z5 : wr.cell? ⟨(A.fa i).fb, 5, none⟩ = some (.map (some (A.fa i).wb)) := (hfr.cell fb2 nfs).trans (cell_of M0.out rfl)
      have hsec := sectors_calls (f.seen.length + data.length) (by omega) wr
      rw [hT] at hsec
      have HSec := Lib.hid hsec
      have HFr := Lib.hid hfr
      have HS1 := Lib.hid hs1
      have HS2 := Lib.hid hs2
      clear hsec hfr hs1 hs2
      by_cases hlt : k < T
      · obtain ⟨ks, hm, hnd, hmem⟩ := HS2.out
        obtain ⟨ks1, hm1, hnd1, hmem1⟩ := HS1.out
        change MapAt (Value.int .i64) wr (A.fa i).wb (ent ks) at hm
        change MapAt (Value.int .i64) wr (A.fa i).sb (ent ks1) at hm1
        have HMem := Lib.hid hmem
        have HMem1 := Lib.hid hmem1
        clear hmem hmem1
        go_wp2_with (first
          | (go_at_call 70; refine HSec.out.mono ?_; rintro e w' ⟨rfl, rfl⟩)
          | (at_mapUpdate; refine wpl_update _ rfl _ _ _ rfl kI Tryz.underlying100 (k : Int) rfl rfl hm (fun w2 hm2 hg2 hs2 => ?_); have q2 : w2.cell? ⟨(A.fa i).fb, 2, none⟩ = some (.map (some (A.fa i).sb)) := (hg2.cell_far _ (Nat.lt_of_lt_of_le fb2 HFr.out.size) (by simpa using fun e => nfs (.inr e))).trans z2)
          | (at_delete; refine wpl_delete _ rfl _ _ rfl kI Tryz.underlying100 (k : Int) rfl rfl (hm1.of_block (hg2.block _ (Nat.lt_of_lt_of_le sb2 HFr.out.size) (by simpa using nsw))) (fun w3 hm3 hg3 hs3 => ?_)))
        have t1 := SetAt.del (S := fun j => f.badSeen j && !(decide (L ≤ j) && decide (j < k))) hnd1 HMem1.out k hm3
        have t2 := SetAt.same (SetAt.ins (S := fun j => f.waits j || (decide (L ≤ j) && decide (j < k))) hnd HMem.out k hm2) (hg3.block _ (by have := hg2.size; have := HFr.out.size; omega) (by simpa using Ne.symm nsw))
        refine ⟨⟨k + 1, by go_num, by omega, by omega, ?_, SetAt.congr t1 ?_, SetAt.congr t2 ?_⟩, by simp [intOf]; omega⟩
        · exact (HFr.out.grown hg2 (fun x e _ => .inr (Option.some.inj e).symm)).grown hg3 (fun x e _ => .inl (Option.some.inj e).symm)
        · intro j
          cases f.badSeen j with
          | false => simp
          | true => by_cases h1 : L ≤ j <;> by_cases h2 : j < k <;> by_cases h3 : j = k <;> by_cases h4 : j < k + 1 <;> simp [h1, h2, h3, h4] <;> omega
        · intro j
          cases f.waits j with
          | true => simp
          | false => by_cases h1 : L ≤ j <;> by_cases h2 : j < k <;> by_cases h3 : j = k <;> by_cases h4 : j < k + 1 <;> simp [h1, h2, h3, h4] <;> omega
      · obtain rfl : k = T := by omega
        go_wp2_with (first
          | (go_at_call 70; refine HSec.out.mono ?_; rintro e w' ⟨rfl, rfl⟩))
        go_end0
        exact ⟨rfl, hfin.out _ _ _ HFr.out HS1.out HS2.out (fun _ => rfl) (fun _ => rfl)⟩
end Go.Proofs.YtglhedahannjiaaGreatDoor.Dw

/- Walks: waitingSectors. -/
namespace Go.Proofs.YtglhedahannjiaaGreatDoor.Dw
open Go.RowKit Go.ChangeMaps Go.Proofs.YtglhedahannjiaaGreatDoor.Mp Go.Proofs.YtglhedahannjiaaGreatDoor.Dm Go.Proofs.YtglhedahannjiaaGreatDoor.Da
set_option linter.unusedVariables false
set_option linter.unusedSimpArgs false
set_option linter.unusedSectionVars false
theorem sorted_set {ks dk : List Int} {S : Nat → Bool} {M : Nat} (hp : dk.Perm ks) (hn : ks.Nodup) (hm : ∀ k : Int, k ∈ ks ↔ 0 ≤ k ∧ S k.toNat = true) (hM : ∀ k, S k = true → k < M) : dk.mergeSort leI = numbers S M := by
  have h1 : (dk.mergeSort leI).Perm (numbers S M) := by
    refine (List.mergeSort_perm _ _).trans (hp.trans ?_)
    rw [List.perm_ext_iff_of_nodup hn ((numbers_pairwise S M).imp fun h => by omega)]
    intro k
    rw [hm k, numbers_mem]
    exact ⟨fun h => ⟨h.1, by have := hM _ h.2; omega, h.2⟩, fun h => ⟨h.1, h.2.2⟩⟩
  refine List.Perm.eq_of_pairwise (le := fun a b : Int => a ≤ b) (fun a b _ _ h1 h2 => by omega) ?_ ((numbers_pairwise S M).imp fun h => by omega) h1
  exact (List.pairwise_mergeSort (le := leI) (fun a b c h1 h2 => by unfold leI at *; simp at *; omega) (fun a b => by unfold leI; simp; omega) dk).imp fun h => by unfold leI at h; simpa using h
theorem own_ne_iter {w : World} {base : Nat} {e : TypeId} {size n : Nat} {v : Value} {xs : List Value} {it m : Nat} {α : Type} {enc : α → Value} {l todo : List (α × Value)} (h : w.ownsRow base e size v n xs) (hi : IterAt enc w it m l todo) : some it ≠ v.ownBlock ∧ some m ≠ v.ownBlock := by
  obtain ⟨es, c, s, h1, h2, _⟩ := hi
  rcases h.2 with ⟨rfl, _⟩ | ⟨g, cap, cur, rfl, _, hb, _⟩
  · simp [Value.ownBlock]
  · constructor <;> intro e1
    · have : it = g := by simpa [Value.ownBlock] using e1
      subst this; rw [h2] at hb; cases hb
    · have : m = g := by simpa [Value.ownBlock] using e1
      subst this; rw [h1] at hb; cases hb
theorem own_form {w : World} {base : Nat} {e : TypeId} {size n : Nat} {v : Value} {xs : List Value} (h : w.ownsRow base e size v n xs) : ∃ p c, v = .slice p n c := by
  rcases h.2 with ⟨rfl, rfl⟩ | ⟨g, cap, cur, rfl, _⟩
  · exact ⟨none, 0, rfl⟩
  · exact ⟨_, cap, rfl⟩
theorem own_low {w : World} {base : Nat} {e : TypeId} {size n : Nat} {v : Value} {xs : List Value} (h : w.ownsRow base e size v n xs) {k : Nat} (hk : v.ownBlock = some k) : base ≤ k ∧ k < w.heap.size := by
  rcases h.2 with ⟨rfl, _⟩ | ⟨g, cap, cur, rfl, hb, hh, _⟩
  · simp [Value.ownBlock] at hk
  · have : g = k := by simpa [Value.ownBlock] using hk
    subst this
    exact ⟨hb, blk_lt hh⟩
theorem own_grown {w w' : World} {base : Nat} {e : TypeId} {size n : Nat} {v : Value} {xs : List Value} {row : Option Nat} (h : w.ownsRow base e size v n xs) (hg : w.grownBy w' row) (hne : ∀ g, v.ownBlock = some g → some g ≠ row) : w'.ownsRow base e size v n xs := by
  refine ⟨h.1, ?_⟩
  rcases h.2 with h2 | ⟨g, cap, cur, hv, hb, hh, r⟩
  · exact .inl h2
  · exact .inr ⟨g, cap, cur, hv, hb, by rw [hg.block g (blk_lt hh) (hne g (by rw [hv]; rfl))]; exact hh, r⟩
/-- In a loop that collects a set's numbers. -/
structure KeysInv (w wr : World) (base m it : Nat) (ks tk dk : List Int) (v : Value) : Prop where
  frm : Frm (fun _ => False) w wr
  iter : IterAt (Value.int .i64) wr it m (ent ks) (ent tk)
  row : wr.ownsRow base 3 1 v dk.length (i64s dk)
  perm : (tk ++ dk).Perm ks
theorem intInfo : (Tryz.prog.info? 3).map (fun i => (i.zero, i.size, i.bytes)) = some (some (.int .i64 0), 1, 8) := by kernel_rfl
set_option maxHeartbeats 1000000 in
set_option maxRecDepth 100000 in
theorem waitingSectors_calls {w : World} {fb m : Nat} {cs : Array Value} {S : Nat → Bool} {M : Nat} (hb : w.heap[fb]? = some (.cells cs 104 (0, 0))) (h5 : cs[5]? = some (.map (some m))) (hS : SetAt w m S) (hM : ∀ k, S k = true → k < M) (hM2 : M ≤ 4398046511104) :
    Calls Tryz.prog 104 #[.pointer (some ⟨fb, 0, none⟩)] w fun e w' => ∃ v, e = .returned v ∧ w'.ownsRow w.heap.size 3 1 v (numbers S M).length (i64s (numbers S M)) ∧ Frm (fun _ => False) w w' := by
  obtain ⟨i0, hi0, hz0, hz1, hz2⟩ := info_parts intInfo
  have c5 : w.cell? ⟨fb, 5, none⟩ = some (.map (some m)) := cell_of hb h5
  obtain ⟨ks, hks, hnd, hmem⟩ := hS
  change MapAt (Value.int .i64) w m (ent ks) at hks
  have hlen : ks.length ≤ M := by
    have e := sorted_set (List.Perm.refl ks) hnd hmem hM
    have h1 : (ks.mergeSort leI).length = ks.length := by simp
    rw [← h1, e]
    unfold numbers
    simp only [List.length_map]
    exact Nat.le_trans (List.length_filter_le _ _) (by simp)
  have hfin : Hid (∀ dk : List Int, dk.Perm ks → dk.mergeSort leI = numbers S M) := fun dk hp => sorted_set hp hnd hmem hM
  have HND := Lib.hid hnd
  have hmx : maxLen = 9223372036854775807 := by decide
  have hl1 : (ent ks).length = ks.length := by simp [ent]
  have HL1 := Lib.hid hl1
  have hml := hks.lt
  have fbl := blk_lt hb
  clear hmem hM hb h5 hnd hl1
  go_enter Tryz.func104, Tryz.ntmps104
  go_wp2_with (first
    | (refine wpl_len _ rfl (.tmp 8) rfl Tryz.underlying100 rfl hks ?_; rw [HL1.out])
    | (at_make; refine wpList_make_own _ rfl _ _ _ rfl w.heap.size 3 i0 _ 1 Tryz.underlying23 hi0 hz0 hz1 .i64 .i64 _ ks.length rfl rfl rfl (by rw [hz2]; omega) (by omega) (Nat.le_refl _) ?_; intro w1 hown1 hg1; have c51 : w1.cell? ⟨fb, 5, none⟩ = some (.map (some m)) := (hg1.cell_far _ fbl (by simp)).trans c5; have hks1 := hks.of_block (hg1.block m hml (by simp)))
    | (at_range; refine wpl_range _ rfl _ rfl Tryz.underlying100 rfl hks1 ?_; intro W2 hi2 hg2 hs2))
  have I2 : KeysInv w W2 w.heap.size m w1.heap.size ks ks [] (.slice (some ⟨w.heap.size, 0, none⟩) 0 ks.length) :=
    ⟨((Frm.refl _ _).grown hg1 (by simp)).grown hg2 (by simp), hi2, by simpa [i64s] using own_grown hown1 hg2 (fun g _ => by simp), by simp⟩
  have HI := Lib.hid I2
  have hwb : w.heap.size ≤ w1.heap.size := hg1.size
  clear I2 hi2 hg2 hs2 hown1 hg1 c51 hks1 c5 hks
  go_frame
  generalize w1.heap.size = it at *
  go_loopw [3] (fun v wr => ∃ tk dk, KeysInv w wr w.heap.size m it ks tk dk v) (fun _ wr => leftIn wr it m)
  case atStart => exact ⟨ks, [], HI.out⟩
  case round =>
    obtain ⟨tk, dk, I⟩ := hrel
    have II := Lib.hid I
    have hI := I.iter
    have hleft := I.iter.left
    have hrow := I.row
    clear I
    by_cases h0 : tk = []
    · subst h0
      have hp : dk.Perm ks := by simpa using II.out.perm
      have hdl : dk.length < 4611686018427387904 := by have := hp.length_eq; omega
      obtain ⟨p, c, rfl⟩ := own_form hrow
      have KEY := Lib.hid (sortI_calls wr w.heap.size 3 p c dk hrow hdl)
      go_wp2_with (first
        | (at_next; refine wpl_next _ rfl _ rfl rfl hI (fun h0 => ?_) (fun y vv todo' w1 hp hi1 hg1 hs1 hen => absurd hp.length_eq (by simp [ent])))
        | (go_at_call 105; refine KEY.out.mono ?_; rintro e w3 ⟨rfl, hr3, hg3⟩; have HR3 := Lib.hid (And.intro hr3 hg3); clear hr3 hg3))
      go_ret
      have e := hfin.out dk hp
      rw [← e]
      exact ⟨_, rfl, by simpa using HR3.out.1, II.out.frm.grown HR3.out.2 (fun k e hk => by have := own_low hrow e; omega)⟩
    · have hlt : dk.length < ks.length := by
        have := II.out.perm.length_eq
        have h2 : 0 < tk.length := List.length_pos_iff.2 h0
        simp at this; omega
      have hn1 : dk.length + 1 ≤ maxLen := by omega
      have hb1 : (dk.length + 1) * 8 ≤ 140737488355328 := by omega
      have hne := own_ne_iter hrow hI
      have hwr : w.heap.size ≤ wr.heap.size := II.out.frm.size
      go_wp2_with (first
        | (at_next; refine wpl_next _ rfl _ rfl rfl hI (fun h0x => absurd (List.map_eq_nil_iff.1 h0x) h0) (fun y vv todo' w1 hp hi1 hg1 hs1 hen => ?_); obtain ⟨rfl, tk', rfl, hp'⟩ := ent_perm hp; have HP' := Lib.hid hp'; have hrow1 := own_grown hrow hg1 (fun g hg => by rw [← hg]; exact fun e => hne.1 e.symm); have hsz1 := hg1.size; clear hp hp' hs1)
        | (at_builtin; refine wpList_append_own_at _ rfl _ _ _ rfl w.heap.size 3 i0 _ 1 8 Tryz.underlying23 hi0 hz0 hz1 hz2 rfl (by omega) _ dk.length _ rfl (hrow1.alloc _) ⟨w1.heap.size, 0, none⟩ 1 1 [.int .i64 y] rfl rfl (World.news_of_block (cs := #[.int .i64 y]) (t := 3) (fr := (0, 0)) (heap_alloc_new w1 _)) (by simp [Value.oneCell']) hn1 hb1 (by simp; omega) ?_; intro v2 w2 hown2 hg2 hnil2 hat2))
      have hi2 : IterAt (Value.int .i64) w2 it m (ent ks) (ent tk') := by
        have itl : it < w1.heap.size := by obtain ⟨es, cl, sn, _, hh, _⟩ := hi1; exact blk_lt hh
        have ml : m < w1.heap.size := by obtain ⟨es, cl, sn, hh, _⟩ := hi1; exact blk_lt hh
        exact hi1.of_block ((hg2.block m (by simp; omega) hne.2).trans (blk_alloc_lt ml)) ((hg2.block it (by simp; omega) hne.1).trans (blk_alloc_lt itl))
      go_roundw
      case rel =>
        refine ⟨tk', dk ++ [y], ⟨?_, hi2, by simpa [i64s] using hown2, ?_⟩⟩
        · exact ((II.out.frm.grown hg1 (fun k e hk => by have := Option.some.inj e; omega)).alloc _).grown hg2 (fun k e hk => by have := own_low hrow e; omega)
        · refine List.Perm.trans ?_ II.out.perm
          refine List.Perm.trans ?_ (HP'.out.symm.append_right dk)
          rw [← List.append_assoc]
          exact List.perm_append_singleton y (tk' ++ dk)
      case measure =>
        rw [hi2.left, hleft]
        have := HP'.out.length_eq
        simp [ent] at this ⊢
        omega
end Go.Proofs.YtglhedahannjiaaGreatDoor.Dw

/- errors.Is at errors of errors.New's make: the worked contracts of the guide's SentryIs, turned to this program. -/
namespace Go.Proofs.YtglhedahannjiaaGreatDoor.Ei
open Go.RowKit Go.Extern.Stop Go.Stop Go.Extern
theorem isTypeOf (v : Value) (w : World) : (Extern.ReflectliteType.typeOf #[.iface 228 v]).run Tryz.prog w = .ok (.iface 194 (.agg #[.pointer (some ⟨15, 228, none⟩)])) w := by kernel_rfl
/-- The model's entry for rtype's Comparable. -/
def cmpM : Array Value → Sem Value := Extern.ReflectliteType.method fun t => do Go.Extern.Rtype.noPackHeld "Comparable" t; pure (.bool (← typeInfo t).comparable)
theorem isComparable (w : World) : (cmpM #[.agg #[.pointer (some ⟨15, 228, none⟩)]]).run Tryz.prog w = .ok (.bool true) w := by kernel_rfl
theorem isMethodComparable (v : Value) (w : World) : (Go.method 363 194 v "Comparable").run Tryz.prog w = .ok (191, v) w := by kernel_rfl
theorem isComp : (Tryz.prog.info? 228).map (·.comparable) = some true := by kernel_rfl
theorem isSize : (Tryz.prog.info? 252).map (·.size) = some 1 := by kernel_rfl
theorem noIsE (v : Value) (xT : TypeId) (w : World) : (Instr.typeAssert (.iface 228 v) xT 196 true).run Tryz.prog w = .ok (.tuple #[.nilIface, .bool false]) w := run_typeAssert_lacksB Tryz.underlying196 (by kernel_rfl) (by kernel_rfl) v xT w
theorem noUnwrapE (v : Value) (xT : TypeId) (w : World) : (Instr.typeAssert (.iface 228 v) xT 199 true).run Tryz.prog w = .ok (.tuple #[.nilIface, .bool false]) w := run_typeAssert_lacksB Tryz.underlying199 (by kernel_rfl) (by kernel_rfl) v xT w
theorem noUnwrapsE (v : Value) (xT : TypeId) (w : World) : (Instr.typeAssert (.iface 228 v) xT 200 true).run Tryz.prog w = .ok (.tuple #[.nilIface, .bool false]) w := run_typeAssert_lacksB Tryz.underlying200 (by kernel_rfl) (by kernel_rfl) v xT w
/-- errors.Is(x, x), x a pointer to an errors.errorString. -/
theorem is_same (a : Addr) (w : World) :
    Calls Tryz.prog 100 #[.iface 228 (.pointer (some a)), .iface 228 (.pointer (some a))] w fun e w' => e = .returned (.bool true) ∧ w' = w := by
  obtain ⟨i, hi, hcmp⟩ := Option.map_eq_some_iff.1 isComp
  obtain ⟨j, hj, hjs⟩ := Option.map_eq_some_iff.1 isSize
  have h8 := @run_callFunc_extern Tryz.prog 125 _ Extern.ReflectliteType.typeOf Tryz.func125 (by kernel_rfl) (by kernel_rfl) (by kernel_rfl) (by kernel_rfl)
  have h32 := @run_callFunc_extern Tryz.prog 191 _ cmpM Tryz.func191 (by kernel_rfl) (by kernel_rfl) (by kernel_rfl) (by kernel_rfl)
  have tT := isTypeOf
  have cT := isComparable
  have mR := isMethodComparable
  have heq := run_eql_iface_ptr_same (P := Tryz.prog) w a Tryz.underlying28 Tryz.underlying228 hi hcmp hj
  go_enter Tryz.func100, Tryz.ntmps100
  go_wp2
  refine wp_loop_rounds 1 ?_
  rw [rounds_succ]
  go_wp2
  go_ret
  exact ⟨rfl, rfl⟩
/-- errors.Is(nil, x). -/
theorem is_nil (b : Addr) (w : World) :
    Calls Tryz.prog 100 #[.nilIface, .iface 228 (.pointer (some b))] w fun e w' => e = .returned (.bool false) ∧ w' = w := by
  have hn := run_eql_iface_nil_left (P := Tryz.prog) w 228 (.pointer (some b)) Tryz.underlying28
  go_enter Tryz.func100, Tryz.ntmps100
  go_wp2
  go_ret
  exact ⟨rfl, rfl⟩
/-- errors.Is(x, y), two different pointers to errors.errorString. -/
theorem is_other (a b : Addr) (ca cb : Array Value) (ta tb : TypeId) (w : World) (hne : a ≠ b) (ha : w.heap[a.block]? = some (.cells ca ta (0, 0))) (hb : w.heap[b.block]? = some (.cells cb tb (0, 0))) :
    Calls Tryz.prog 100 #[.iface 228 (.pointer (some a)), .iface 228 (.pointer (some b))] w fun e w' => e = .returned (.bool false) ∧ w' = w := by
  obtain ⟨i, hi, hcmp⟩ := Option.map_eq_some_iff.1 isComp
  obtain ⟨j, hj, hjs⟩ := Option.map_eq_some_iff.1 isSize
  have h8 := @run_callFunc_extern Tryz.prog 125 _ Extern.ReflectliteType.typeOf Tryz.func125 (by kernel_rfl) (by kernel_rfl) (by kernel_rfl) (by kernel_rfl)
  have h32 := @run_callFunc_extern Tryz.prog 191 _ cmpM Tryz.func191 (by kernel_rfl) (by kernel_rfl) (by kernel_rfl) (by kernel_rfl)
  have tT := isTypeOf
  have cT := isComparable
  have mR := isMethodComparable
  have nE := noIsE
  have uE := noUnwrapE
  have vE := noUnwrapsE
  have heq := run_eql_iface_ptr_other (P := Tryz.prog) w Tryz.underlying28 Tryz.underlying228 hi hcmp hj (by rw [hjs]; decide) hne ha hb
  go_enter Tryz.func100, Tryz.ntmps100
  go_wp2
  refine wp_loop_rounds 1 ?_
  rw [rounds_succ]
  go_wp2
  go_ret
  exact ⟨rfl, rfl⟩
end Go.Proofs.YtglhedahannjiaaGreatDoor.Ei
