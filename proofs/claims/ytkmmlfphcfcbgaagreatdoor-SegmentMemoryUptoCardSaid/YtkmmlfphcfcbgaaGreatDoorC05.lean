/- A part of the proof of segmentMemoryUpto_holds: Ec, Dz, Db, Mq, Dy, Dx, Ds. No condition. -/
import Derived.Ground.SlgmProg
import Derived.Shelf.SortM.Plain
import Derived.Shelf.SortM.SortNone
import Derived.Sort.OwnSorted
import Derived.Ground.SlgnProg
import Derived.Shelf.SlicesE.Clone
import Derived.Laws.AppendOwnNone
import Derived.Deep.Upon
import Derived.Deep.AppendSrc
import Derived.Deep.AppendLies
import Derived.Test.YtkmmlfphcfcbgaaGreatDoorC04

/- slices.Sort at whole numbers and at strings, by the shelf. -/
namespace Go.Proofs.YtkmmlfphcfcbgaaGreatDoor.Dw
open Go.RowKit Go.ChangeMaps Go.Proofs.YtkmmlfphcfcbgaaGreatDoor.Mp Go.Proofs.YtkmmlfphcfcbgaaGreatDoor.Dm Go.Proofs.YtkmmlfphcfcbgaaGreatDoor.Da Go.Shelf Go.Sort
set_option linter.unusedVariables false
set_option linter.unusedSimpArgs false
set_option linter.unusedSectionVars false
section
variable {α : Type} [Inhabited α] {enc : α → Value}
theorem enc_holds {w : World} {g : Nat} {cur : Array Value} {e : TypeId} {ss : List α} (hb : w.heap[g]? = some (.cells cur e (0, 0))) (ht : cur.toList.take ss.length = ss.map enc) : Holds enc w g 0 ss.toArray := by
  intro j hj
  have hj' : j < ss.length := by simpa using hj
  refine ⟨?_, by simp [World.frozen?, hb]⟩
  have h1 : (cur.toList.take ss.length)[j]? = (ss.map enc)[j]? := by rw [ht]
  rw [List.getElem?_take_of_lt hj'] at h1
  simp only [World.cell?, hb, Nat.zero_add]
  simp only [Option.isSome_none, Bool.false_eq_true, if_false]
  rw [← Array.getElem?_toList, h1]
  simp [hj']
theorem enc_heap {w : World} {g n : Nat} {os : Array Obj} {cur : Array Value} {e : TypeId} {fr : Nat × Nat} (d : Array α) (hb : w.heap[g]? = some (.cells cur e fr)) :
    (grow (putRow enc (Sort.ahead w n) g 0 d) os).heap[g]? = some (.cells (putCells enc 0 d cur) e fr) := by
  have hg : g < w.heap.size := (Array.getElem?_eq_some_iff.1 hb).1
  rw [heap_grow_old _ _ (by simpa using hg)]
  simp [putRow, mapBlock, Sort.ahead, Array.getElem?_modify, hb, onCells]
theorem enc_grown {w : World} {g n : Nat} {os : Array Obj} (d : Array α) : w.grownBy (grow (putRow enc (Sort.ahead w n) g 0 d) os) (some g) := by
  refine ⟨rfl, rfl, rfl, by simp, fun k hk hne => ?_⟩
  rw [heap_grow_old _ _ (by simpa using hk)]
  have : g ≠ k := fun e => hne (by rw [e])
  simp [putRow, mapBlock, Sort.ahead, Array.getElem?_modify, this]
theorem enc_take (cur : Array Value) (ts : List α) (h : ts.length ≤ cur.size) : (putCells enc 0 ts.toArray cur).toList.take ts.length = ts.map enc := by
  apply List.ext_getElem?
  intro j
  by_cases hj : j < ts.length
  · rw [List.getElem?_take_of_lt hj, Array.getElem?_toList]
    simp [putCells, hj, show j < cur.size by omega]
  · rw [List.getElem?_take_eq_none (by omega), List.getElem?_eq_none (by simp; omega)]
theorem enc_owns {w : World} {base g cap n : Nat} {e : TypeId} {os : Array Obj} {cur : Array Value} {ss ts : List α} (hl : ts.length = ss.length) (hbase : base ≤ g) (hb : w.heap[g]? = some (.cells cur e (0, 0)))
    (h1 : ss.length ≤ cap) (h2 : cap ≤ maxLen) (h3 : cur.size = cap * 1) :
    (grow (putRow enc (Sort.ahead w n) g 0 ts.toArray) os).ownsRow base e 1 (.slice (some ⟨g, 0, none⟩) ss.length cap) ss.length (ts.map enc) :=
  ⟨by simp [hl], .inr ⟨g, cap, _, rfl, hbase, enc_heap _ hb, h1, h2, by simp [putCells, h3], by rw [Nat.mul_one, ← hl]; exact enc_take cur ts (by omega)⟩⟩
end
def leI (x y : Int) : Bool := decide (x ≤ y)
def leL (x y : List UInt8) : Bool := decide (x ≤ y)
def i64s (xs : List Int) : List Value := xs.map (Value.int .i64)
theorem sortI_calls (w : World) (base : Nat) (e : TypeId) (p : Option Addr) (c : Nat) (xs : List Int) (h : w.ownsRow base e 1 (.slice p xs.length c) xs.length (i64s xs)) (hl : xs.length < 4611686018427387904) :
    Calls Tryz.prog 139 #[.slice p xs.length c] w fun r w' => r = .returned (.tuple #[]) ∧ w'.ownsRow base e 1 (.slice p xs.length c) xs.length (i64s (xs.mergeSort leI)) ∧ w.grownBy w' (Value.slice p xs.length c).ownBlock := by
  rcases h.2 with ⟨hv, hn⟩ | ⟨g, cap, cur, hv, hg, hh, h1, h2, h3, h4⟩
  · have hx : xs = [] := List.eq_nil_of_length_eq_zero hn
    subst hx
    refine (AnyM.slices_Sort_int_none sortI_lays p c w).mono ?_
    rintro r w' ⟨rfl, rfl⟩
    exact ⟨rfl, by simpa using h, World.grownBy.refl _ _⟩
  · simp only [Value.slice.injEq, true_and] at hv
    obtain ⟨rfl, rfl⟩ := hv
    refine (AnyM.slices_Sort_int sortI_lays g 0 c xs w (enc_holds hh (by simpa [i64s] using h4)) (blk_lt hh) hl).mono ?_
    rintro r w' ⟨rfl, n, os, rfl⟩
    exact ⟨rfl, enc_owns (by simp) hg hh h1 h2 h3, enc_grown _⟩
theorem sortS_calls (w : World) (base : Nat) (e : TypeId) (p : Option Addr) (c : Nat) (xs : List (List UInt8)) (h : w.ownsRow base e 1 (.slice p xs.length c) xs.length (xs.map encStr)) (hl : xs.length < 4611686018427387904) :
    Calls Tryz.prog 128 #[.slice p xs.length c] w fun r w' => r = .returned (.tuple #[]) ∧ w'.ownsRow base e 1 (.slice p xs.length c) xs.length ((xs.mergeSort leL).map encStr) ∧ w.grownBy w' (Value.slice p xs.length c).ownBlock := by
  rcases h.2 with ⟨hv, hn⟩ | ⟨g, cap, cur, hv, hg, hh, h1, h2, h3, h4⟩
  · have hx : xs = [] := List.eq_nil_of_length_eq_zero hn
    subst hx
    refine (AnyM.slices_Sort_string_none sortS_lays p c w).mono ?_
    rintro r w' ⟨rfl, rfl⟩
    exact ⟨rfl, by simpa using h, World.grownBy.refl _ _⟩
  · simp only [Value.slice.injEq, true_and] at hv
    obtain ⟨rfl, rfl⟩ := hv
    refine (AnyM.slices_Sort_string sortS_lays g 0 c xs w (enc_holds hh (by simpa using h4)) (blk_lt hh) hl).mono ?_
    rintro r w' ⟨rfl, n, os, rfl⟩
    exact ⟨rfl, enc_owns (by simp) hg hh h1 h2 h3, enc_grown _⟩
end Go.Proofs.YtkmmlfphcfcbgaaGreatDoor.Dw

/- slices.Clone at bytes and at failures, by the shelf. -/
namespace Go.Proofs.YtkmmlfphcfcbgaaGreatDoor.Dw
open Go.RowKit Go.ChangeMaps Go.Proofs.YtkmmlfphcfcbgaaGreatDoor.Mp Go.Proofs.YtkmmlfphcfcbgaaGreatDoor.Dm Go.Proofs.YtkmmlfphcfcbgaaGreatDoor.Da Go.Shelf
set_option linter.unusedVariables false
set_option linter.unusedSimpArgs false
set_option linter.unusedSectionVars false
theorem byteInfo : (Tryz.prog.info? 5).map (fun i => (i.zero, i.size, i.bytes)) = some (some (.int .u8 0), 1, 1) := by kernel_rfl
theorem failInfo : (Tryz.prog.info? 159).map (fun i => (i.zero, i.size, i.bytes)) = some (some (.agg #[.int .i64 0, .int .i64 0]), 2, 16) := by kernel_rfl
theorem sizeU8 (w : World) : (Go.sizeOf 5).run Tryz.prog w = .ok 1 w := by kernel_rfl
theorem mem_oneCell {xs : List Int} : ∀ u ∈ u8s xs, u.oneCell' = true := by
  intro u hu
  obtain ⟨x, _, rfl⟩ := List.mem_map.1 hu
  rfl
/-- A clone of bytes: new memory (nil of nil). -/
theorem cloneB_calls (v : Value) (xs : List Int) (w : World) (hv : (v = .slice none 0 0 ∧ xs = []) ∨ ∃ b off c, v = .slice (some ⟨b, off, none⟩) xs.length c ∧ ∀ j u, (u8s xs)[j]? = some u → w.cell? ⟨b, off + j, none⟩ = some u) (hn : xs.length ≤ 140737488355328) :
    Calls Tryz.prog 76 #[v] w fun e w' => ∃ v', e = .returned v' ∧ w'.ownsRow w.heap.size 5 1 v' xs.length (u8s xs) ∧ Below w.heap.size w w' ∧ (v' = .slice none 0 0 ↔ v = .slice none 0 0) := by
  rcases hv with ⟨rfl, rfl⟩ | ⟨b, off, c, rfl, hc⟩
  · refine (AnyE.slices_Clone_nil cloneB_lays 0 0 w).mono ?_
    rintro e w' ⟨rfl, rfl⟩
    exact ⟨_, rfl, ⟨by simp [u8s], .inl ⟨rfl, rfl⟩⟩, Below.refl _ _, by simp⟩
  · obtain ⟨i0, hi0, hz0, hz1, hz2⟩ := info_parts byteInfo
    have hmx : maxLen = 9223372036854775807 := by decide
    refine (AnyE.slices_Clone cloneB_lays i0 _ 1 1 hi0 hz0 hz1 hz2 rfl (by omega) sizeU8 b off xs.length c (u8s xs) w (by simp [u8s]) (by omega) (by omega) hc mem_oneCell).mono ?_
    rintro e w' ⟨v', rfl, h1, h2, h3⟩
    exact ⟨v', rfl, h1, h3, by simp [h2]⟩
end Go.Proofs.YtkmmlfphcfcbgaaGreatDoor.Dw

/- What one statement of the program does to a disk in memory. -/
namespace Go.Proofs.YtkmmlfphcfcbgaaGreatDoor.Da
open Go.RowKit Go.ChangeMaps Go.Proofs.YtkmmlfphcfcbgaaGreatDoor.Mp Go.Proofs.YtkmmlfphcfcbgaaGreatDoor.Dm
set_option linter.unusedVariables false
set_option linter.unusedSimpArgs false
set_option linter.unusedSectionVars false
theorem cell_drew {w : World} {a : Addr} {v : Value} (h : w.cell? a = some v) : w.drew.cell? a = some v := h
theorem frozen_drew {w : World} {a : Addr} (h : w.frozen? a = false) : w.drew.frozen? a = false := h
theorem grown_alloc {w w1 : World} {o : Obj} {row : Option Nat} (h : ((w.alloc o).drew).grownBy w1 row) : w.grownBy w1 row :=
  ⟨h.os, h.tape, h.output, by have := h.size; simp at this; omega, fun i hi hne => by
    have := h.block i (by simp; omega) hne
    rw [this]; exact Below.heap_alloc _ _ _ hi⟩
/-- What holds of every disk that the calls make. -/
structure WF (D : Disk) : Prop where
  nowN : (D.now.map (·.1)).Nodup
  sureN : (D.sure.map (·.1)).Nodup
  nowI : ∀ p, p ∈ D.now → p.2 < D.files.length
  sureI : ∀ p, p ∈ D.sure → p.2 < D.files.length
  chgI : ∀ c, c ∈ D.changes → ∀ p, c.put = some p → p.2 < D.files.length
  chgD : ∀ c, c ∈ D.changes → ∀ n, c.del = some n → n.size ≠ 0
theorem WF.tick {D : Disk} (h : WF D) : WF D.tick := ⟨h.nowN, h.sureN, h.nowI, h.sureI, h.chgI, h.chgD⟩
theorem WF.dark {D : Disk} (h : WF D) : WF D.dark := ⟨h.nowN, h.sureN, h.nowI, h.sureI, h.chgI, h.chgD⟩
/-- The world behind newFile. -/
def wNew (w : World) (b : Nat) (born : Nat) : World :=
  (((((w.setCell ⟨b, 3, none⟩ (.int .i64 (born + 1))).alloc (.map #[] 0)).alloc (.map #[] 0)).alloc (.map #[] 0)).alloc
    (.cells #[.int .i64 (born + 1), .slice none 0 0, .map (some w.heap.size), .slice none 0 0, .map (some (w.heap.size + 1)), .map (some (w.heap.size + 1 + 1))] 144))
theorem NamesAt.congr {w : World} {m : Nat} {l : List (Name × Nat)} {A A' : Adr} (h : NamesAt w m l A) (hA : ∀ p, p ∈ l → fptr A' p.2 = fptr A p.2) : NamesAt w m l A' := by
  obtain ⟨l', hp, hm⟩ := h
  refine ⟨l', hp, ?_⟩
  have : (l'.map fun p => (p.1, fptr A' p.2)) = l'.map fun p => (p.1, fptr A p.2) := List.map_congr_left fun p hp' => by rw [hA p (hp.mem_iff.1 hp')]
  rw [this]; exact hm
theorem chg_congr {A A' : Adr} {l : List Chg} (hA : ∀ c, c ∈ l → ∀ p, c.put = some p → fptr A' p.2 = fptr A p.2) : l.flatMap (chgCells A') = l.flatMap (chgCells A) := by
  induction l with
  | nil => rfl
  | cons c l ih =>
    simp only [List.flatMap_cons]
    rw [ih (fun c' hc' => hA c' (List.mem_cons_of_mem _ hc'))]
    congr 1
    unfold chgCells
    cases hp : c.put with
    | none => rfl
    | some p => simp only [Option.map_some, Option.getD_some]; rw [hA c List.mem_cons_self p hp]
theorem RowAt.none {w : World} {lab : Nat → Option Lb} {p : Lb} {e : TypeId} {size : Nat} : RowAt w lab p e size (.slice none 0 0) 0 [] :=
  ⟨⟨by simp, .inl ⟨rfl, rfl⟩⟩, fun g hg => by simp [Value.ownBlock] at hg⟩
theorem SetAt.none {w : World} {m : Nat} (h : MapAt (Value.int .i64) w m ([] : List (Int × Value))) : SetAt w m (fun _ => false) := ⟨[], by simpa using h, by simp, by simp⟩
def Adr.withFile (A : Adr) (n : Nat) (f : FAdr) : Adr := { A with fa := fun i => if i = n then f else A.fa i }
def newFAdr (s : Nat) : FAdr := ⟨s + 3, .slice none 0 0, s, .slice none 0 0, s + 1, s + 2⟩
def newLab (lab : Nat → Option Lb) (n s : Nat) : Nat → Option Lb := fun k =>
  if k = s + 3 then some (.file n) else if k = s then some (.sb n) else if k = s + 1 then some (.ab n) else if k = s + 2 then some (.wb n) else lab k
theorem DiskAt.newFile {B : Nat} {w : World} {b : Nat} {A : Adr} {lab : Nat → Option Lb} {D : Disk} (h : DiskAt B w b A lab D) (hw : WF D) :
    DiskAt B (wNew w b D.files.length) b (A.withFile D.files.length (newFAdr w.heap.size)) (newLab lab D.files.length w.heap.size) { D with files := D.files ++ [FileS.new] } ∧
      Frm (Ft lab) w (wNew w b D.files.length) ∧ (∀ k, k < w.heap.size → Ft (newLab lab D.files.length w.heap.size) k → Ft lab k) := by
  have hbl := blk_lt h.blk
  have hF : Ft lab b := by unfold Ft; rw [h.lb]; rfl
  have hold : ∀ k, k < w.heap.size → newLab lab D.files.length w.heap.size k = lab k := by
    intro k hk
    unfold newLab
    rw [if_neg (by omega), if_neg (by omega), if_neg (by omega), if_neg (by omega)]
  have hlab : ∀ k p, lab k = some p → newLab lab D.files.length w.heap.size k = some p := fun k p hl => by rw [hold k (h.base k p hl).2]; exact hl
  have hsz : (w.setCell ⟨b, 3, none⟩ (.int .i64 (D.files.length + 1))).heap.size = w.heap.size := by simp
  have hsame : ∀ k, k < w.heap.size → k ≠ b → (wNew w b D.files.length).heap[k]? = w.heap[k]? := by
    intro k hk hne
    unfold wNew
    rw [blk_alloc_lt (by simp; omega), blk_alloc_lt (by simp; omega), blk_alloc_lt (by simp; omega), blk_alloc_lt (by simp; omega), blk_set_ne hne]
  have hfa : ∀ i, i < D.files.length → (A.withFile D.files.length (newFAdr w.heap.size)).fa i = A.fa i := by
    intro i hi; unfold Adr.withFile; simp only []; rw [if_neg (by omega)]
  have hfp : ∀ i, i < D.files.length → fptr (A.withFile D.files.length (newFAdr w.heap.size)) i = fptr A i := by
    intro i hi; unfold fptr; rw [hfa i hi]
  have hmain : ∀ k p, lab k = some p → p ≠ .main → (wNew w b D.files.length).heap[k]? = w.heap[k]? := fun k p hl hp => hsame k (h.base k p hl).2 (ne_of_lab hl h.lb hp)
  refine ⟨⟨?_, hlab _ _ h.lb, ?_, hlab _ _ h.lnm, ?_, hlab _ _ h.lsm, ?_, ?_, ?_, ?_⟩, ?_, ?_⟩
  · unfold wNew
    rw [blk_alloc_lt (by simp; omega), blk_alloc_lt (by simp; omega), blk_alloc_lt (by simp; omega), blk_alloc_lt (by simp; omega), blk_set h.blk]
    simp [mainCells, Adr.withFile]
  · exact (h.names.same (hmain _ _ h.lnm (by simp))).congr (fun p hp => hfp _ (hw.nowI p hp))
  · exact (h.sure.same (hmain _ _ h.lsm (by simp))).congr (fun p hp => hfp _ (hw.sureI p hp))
  · have := (h.waiting.same (w' := wNew w b D.files.length) (fun k hl => hmain k _ hl (by simp))).relab (lab' := newLab lab D.files.length w.heap.size) (fun k hl => hlab k _ hl)
    rw [← chg_congr (A' := A.withFile D.files.length (newFAdr w.heap.size)) (fun c hc p hp => hfp _ (hw.chgI c hc p hp))] at this
    exact this
  · exact (h.fails.same (w' := wNew w b D.files.length) (fun k hl => hmain k _ hl (by simp))).relab (fun k hl => hlab k _ hl)
  · intro i f hf
    rcases Nat.lt_or_ge i D.files.length with hi | hi
    · simp only [] at hf
      rw [List.getElem?_append_left hi] at hf
      have h1 := (h.files i f hf).same (w' := wNew w b D.files.length) (fun k p hl hp => hmain k p hl (by rcases hp with rfl | rfl | rfl | rfl | rfl | rfl <;> simp))
      have h2 := h1.relab (lab' := newLab lab D.files.length w.heap.size) (fun k p hl _ => hlab k p hl)
      rw [hfa i hi]; exact h2
    · simp only [] at hf
      have hi2 := (List.getElem?_eq_some_iff.1 hf).1
      obtain rfl : i = D.files.length := by simp at hi2; omega
      rw [List.getElem?_append_right (Nat.le_refl _)] at hf
      simp at hf
      subst hf
      have hfa' : (A.withFile D.files.length (newFAdr w.heap.size)).fa D.files.length = newFAdr w.heap.size := by unfold Adr.withFile; simp
      rw [hfa']
      have e0 : (wNew w b D.files.length).heap[w.heap.size]? = some (.map #[] 0) := by
        unfold wNew
        rw [blk_alloc_lt (by simp only [World.size_alloc, World.size_setCell]; omega), blk_alloc_lt (by simp only [World.size_alloc, World.size_setCell]; omega), blk_alloc_lt (by simp only [World.size_alloc, World.size_setCell]; omega)]
        have := blk_alloc (w := w.setCell ⟨b, 3, none⟩ (.int .i64 (D.files.length + 1))) (o := .map #[] 0)
        rw [hsz] at this; exact this
      have e1 : (wNew w b D.files.length).heap[w.heap.size + 1]? = some (.map #[] 0) := by
        unfold wNew
        rw [blk_alloc_lt (by simp only [World.size_alloc, World.size_setCell]; omega), blk_alloc_lt (by simp only [World.size_alloc, World.size_setCell]; omega)]
        have := blk_alloc (w := (w.setCell ⟨b, 3, none⟩ (.int .i64 (D.files.length + 1))).alloc (.map #[] 0)) (o := .map #[] 0)
        simpa using this
      have e2 : (wNew w b D.files.length).heap[w.heap.size + 2]? = some (.map #[] 0) := by
        unfold wNew
        rw [blk_alloc_lt (by simp only [World.size_alloc, World.size_setCell]; omega)]
        have := blk_alloc (w := ((w.setCell ⟨b, 3, none⟩ (.int .i64 (D.files.length + 1))).alloc (.map #[] 0)).alloc (.map #[] 0)) (o := .map #[] 0)
        simpa using this
      have e3 : (wNew w b D.files.length).heap[w.heap.size + 3]? = some (.cells #[.int .i64 (D.files.length + 1), .slice none 0 0, .map (some w.heap.size), .slice none 0 0, .map (some (w.heap.size + 1)), .map (some (w.heap.size + 1 + 1))] 144 (0, 0)) := by
        have := blk_alloc (w := (((w.setCell ⟨b, 3, none⟩ (.int .i64 (D.files.length + 1))).alloc (.map #[] 0)).alloc (.map #[] 0)).alloc (.map #[] 0)) (o := .cells #[.int .i64 (D.files.length + 1), .slice none 0 0, .map (some w.heap.size), .slice none 0 0, .map (some (w.heap.size + 1)), .map (some (w.heap.size + 1 + 1))] 144)
        simpa [wNew] using this
      have me : ∀ {w' : World} {m : Nat}, w'.heap[m]? = some (.map #[] 0) → MapAt (Value.int .i64) w' m ([] : List (Int × Value)) := fun hm => ⟨#[], 0, hm, ⟨by simp, by simp⟩, by simp⟩
      exact ⟨by rw [show (newFAdr w.heap.size).fb = w.heap.size + 3 from rfl, e3]; rfl, by simp [newLab, newFAdr], RowAt.none, RowAt.none, SetAt.none (me e0), by simp [newLab, newFAdr], SetAt.none (me e1), by simp [newLab, newFAdr], SetAt.none (me e2), by simp [newLab, newFAdr]⟩
  · intro k p hl
    have hs : (wNew w b D.files.length).heap.size = w.heap.size + 4 := by simp [wNew]
    rw [hs]
    have hB : B ≤ w.heap.size := Nat.le_of_lt (Nat.lt_of_le_of_lt (h.base b _ h.lb).1 hbl)
    rcases Nat.lt_or_ge k w.heap.size with hk | hk
    · rw [hold k hk] at hl
      exact ⟨(h.base k p hl).1, by omega⟩
    · refine ⟨by omega, ?_⟩
      unfold newLab at hl
      rcases Nat.lt_or_ge k (w.heap.size + 4) with h4 | h4
      · exact h4
      · rw [if_neg (by omega), if_neg (by omega), if_neg (by omega), if_neg (by omega)] at hl
        have := (h.base k p hl).2
        omega
  · unfold wNew
    exact ((((((Frm.refl _ _).setCell _ _ (fun _ => hF)).alloc _).alloc _).alloc _).alloc _)
  · intro k hk hl
    unfold Ft at hl ⊢
    rw [hold k hk] at hl; exact hl
theorem find_mem {l : List (Name × Nat)} (hl : (l.map (·.1)).Nodup) (n : Name) (i : Nat) : find l n = some i ↔ (n, i) ∈ l := by
  induction l with
  | nil => simp [find]
  | cons p l ih =>
    simp only [List.map_cons, List.nodup_cons] at hl
    have ih := ih hl.2
    simp only [find, List.find?_cons] at ih ⊢
    by_cases h : p.1 = n
    · simp only [h, decide_true, Option.map_some, Option.some.injEq, List.mem_cons]
      constructor
      · rintro rfl; left; rw [← h]
      · rintro (h2 | h2)
        · rw [← h2]
        · exact absurd (List.mem_map_of_mem (f := (·.1)) h2) (by rw [h] at hl; exact hl.1)
    · simp only [h, decide_false, ih, List.mem_cons]
      constructor
      · exact .inr
      · rintro (h2 | h2)
        · exact absurd (by rw [← h2]) h
        · exact h2
theorem setL_cons {α : Type} [DecidableEq α] (p : α × Value) (l : List (α × Value)) (x : α) (v : Value) : setL (p :: l) x v = if p.1 = x then (p.1, v) :: l else p :: setL l x v := by
  unfold setL
  simp only [List.findIdx?_cons]
  by_cases h : p.1 = x
  · simp [h]
  · simp only [h, decide_false, if_false]
    cases l.findIdx? fun p => decide (p.1 = x) <;> simp
theorem delL_cons {α : Type} [DecidableEq α] (p : α × Value) (l : List (α × Value)) (x : α) : delL (p :: l) x = if p.1 = x then l else p :: delL l x := by
  unfold delL
  simp only [List.findIdx?_cons]
  by_cases h : p.1 = x
  · simp [h]
  · simp only [h, decide_false, if_false]
    cases l.findIdx? fun p => decide (p.1 = x) <;> simp
theorem erase_self {l : List (Name × Nat)} {n : Name} (h : n ∉ l.map (·.1)) : erase l n = l := by
  unfold erase
  refine List.filter_eq_self.2 fun p hp => ?_
  have : p.1 ≠ n := fun e => h (by rw [← e]; exact List.mem_map_of_mem hp)
  simpa using this
/-- Setting a name in the map in memory. -/
theorem setL_names {l' l : List (Name × Nat)} (hp : l'.Perm l) (hn : (l.map (·.1)).Nodup) (A : Adr) (n : Name) (i : Nat) :
    ∃ l2 : List (Name × Nat), l2.Perm (put l n i) ∧ setL (l'.map fun p => (p.1, fptr A p.2)) n (fptr A i) = l2.map fun p => (p.1, fptr A p.2) := by
  have hn' : (l'.map (·.1)).Nodup := (hp.map (·.1)).nodup_iff.2 hn
  have key : ∀ l' : List (Name × Nat), (l'.map (·.1)).Nodup → ∃ l2 : List (Name × Nat), l2.Perm (put l' n i) ∧ setL (l'.map fun p => (p.1, fptr A p.2)) n (fptr A i) = l2.map fun p => (p.1, fptr A p.2) := by
    intro l' hl'
    induction l' with
    | nil => exact ⟨[(n, i)], by simp [put, erase], by simp [setL]⟩
    | cons p l' ih =>
      simp only [List.map_cons, List.nodup_cons] at hl'
      simp only [List.map_cons, setL_cons]
      by_cases h : p.1 = n
      · refine ⟨(n, i) :: l', ?_, by simp [h]⟩
        have : erase (p :: l') n = l' := by
          have := erase_self (l := l') (n := n) (by rw [← h]; exact hl'.1)
          unfold erase at this ⊢
          simp [h, this]
        unfold put
        rw [this]
        exact (List.perm_append_singleton _ _).symm
      · obtain ⟨l2, h1, h2⟩ := ih hl'.2
        refine ⟨p :: l2, ?_, by simp [h, h2]⟩
        have : put (p :: l') n i = p :: put l' n i := by unfold put erase; simp [h]
        rw [this]
        exact h1.cons _
  obtain ⟨l2, h1, h2⟩ := key l' hn'
  refine ⟨l2, h1.trans ?_, h2⟩
  unfold put erase
  exact (hp.filter _).append_right _
theorem delL_names {l' l : List (Name × Nat)} (hp : l'.Perm l) (hn : (l.map (·.1)).Nodup) (A : Adr) (n : Name) :
    ∃ l2 : List (Name × Nat), l2.Perm (erase l n) ∧ delL (l'.map fun p => (p.1, fptr A p.2)) n = l2.map fun p => (p.1, fptr A p.2) := by
  have hn' : (l'.map (·.1)).Nodup := (hp.map (·.1)).nodup_iff.2 hn
  have key : ∀ l' : List (Name × Nat), (l'.map (·.1)).Nodup → delL (l'.map fun p => (p.1, fptr A p.2)) n = (erase l' n).map fun p => (p.1, fptr A p.2) := by
    intro l' hl'
    induction l' with
    | nil => simp [delL, erase]
    | cons p l' ih =>
      simp only [List.map_cons, List.nodup_cons] at hl'
      simp only [List.map_cons, delL_cons]
      by_cases h : p.1 = n
      · have : erase (p :: l') n = l' := by
          have := erase_self (l := l') (n := n) (by rw [← h]; exact hl'.1)
          unfold erase at this ⊢
          simp [h, this]
        simp [h, this]
      · have : erase (p :: l') n = p :: erase l' n := by unfold erase; simp [h]
        simp [h, this, ih hl'.2]
  refine ⟨erase l' n, ?_, key l' hn'⟩
  unfold erase
  exact hp.filter _
section
variable {B : Nat} {w w' : World} {b : Nat} {A : Adr} {lab : Nat → Option Lb} {D : Disk}
/-- The map of the names as seen has turned. -/
theorem DiskAt.setNow (h : DiskAt B w b A lab D) {l : List (Name × Nat)} (hm : NamesAt w' A.nm l A) (hg : w.grownBy w' (some A.nm)) :
    DiskAt B w' b A lab { D with now := l } ∧ Frm (Ft lab) w w' := by
  have hk : ∀ k p, lab k = some p → p ≠ .names → w'.heap[k]? = w.heap[k]? := fun k p hl hp => hg.block k (h.base k p hl).2 (by
    intro e; exact ne_of_lab hl h.lnm hp (Option.some.inj e))
  refine ⟨⟨?_, h.lb, hm, h.lnm, h.sure.same (hk _ _ h.lsm (by simp)), h.lsm, h.waiting.same (fun k hl => hk k _ hl (by simp)), h.fails.same (fun k hl => hk k _ hl (by simp)), ?_, ?_⟩, ?_⟩
  · rw [hk _ _ h.lb (by simp)]; exact h.blk
  · intro i f hf
    exact (h.files i f hf).same (fun k p hl hp => hk k p hl (by rcases hp with rfl | rfl | rfl | rfl | rfl | rfl <;> simp))
  · exact fun k p hl => ⟨(h.base k p hl).1, Nat.lt_of_lt_of_le (h.base k p hl).2 hg.size⟩
  · exact (Frm.of_grown hg).mono (fun k _ e => by unfold Ft; rw [Option.some.inj e, h.lnm]; rfl)
/-- One label moves to another block, or stays: behind an append. -/
def moveLab (lab : Nat → Option Lb) (p : Lb) (g : Option Nat) : Nat → Option Lb := fun k => if some k = g then some p else if lab k = some p then none else lab k
theorem moveLab_other {p q : Lb} {g : Option Nat} {k : Nat} (hq : q ≠ p) (hl : lab k = some q) (hg : ∀ i, g = some i → lab i = some p ∨ lab i = none) : moveLab lab p g k = some q := by
  unfold moveLab
  rw [if_neg, if_neg, hl]
  · rw [hl]; exact fun e => hq (Option.some.inj e)
  · intro e
    rcases hg k e.symm with h1 | h1 <;> rw [hl] at h1
    · exact hq (Option.some.inj h1)
    · cases h1
/-- The row of the changes that wait has been appended to, and stored back. -/
theorem DiskAt.setWaiting (h : DiskAt B w b A lab D) {w1 : World} {v' : Value} {cs : List Chg} (hrow : w1.ownsRow 0 135 3 v' cs.length (cs.flatMap (chgCells A))) (hg : w.grownBy w1 A.wv.ownBlock)
    (hv : v'.ownBlock = A.wv.ownBlock ∨ ∀ g, v'.ownBlock = some g → w.heap.size ≤ g ∧ g < w1.heap.size) :
    DiskAt B (w1.setCell ⟨b, 2, none⟩ v') b { A with wv := v' } (moveLab lab .waiting v'.ownBlock) { D with changes := cs } ∧ Frm (Ft lab) w (w1.setCell ⟨b, 2, none⟩ v') ∧
      (∀ k, k < w.heap.size → Ft (moveLab lab .waiting v'.ownBlock) k → Ft lab k) := by
  have hlow : ∀ i, v'.ownBlock = some i → lab i = some .waiting ∨ lab i = none := by
    intro i hi
    rcases hv with hv | hv
    · left
      exact h.waiting.lab i (by rw [← hv]; exact hi)
    · right
      rcases hl : lab i with _ | p
      · rfl
      · have := (h.base i p hl).2
        have := (hv i hi).1
        omega
  have hml : ∀ k q, lab k = some q → q ≠ .waiting → moveLab lab .waiting v'.ownBlock k = some q := fun k q hl hq => moveLab_other hq hl hlow
  have hk1 : ∀ k q, lab k = some q → q ≠ .waiting → w1.heap[k]? = w.heap[k]? := fun k q hl hq => hg.block k (h.base k q hl).2 (by
    intro e
    exact hq (by have := h.waiting.lab k e.symm; rw [hl] at this; exact Option.some.inj this))
  have hk : ∀ k q, lab k = some q → q ≠ .waiting → q ≠ .main → (w1.setCell ⟨b, 2, none⟩ v').heap[k]? = w.heap[k]? := fun k q hl hq hm => by
    rw [blk_set_ne (ne_of_lab hl h.lb hm)]; exact hk1 k q hl hq
  have hgb : ∀ i, v'.ownBlock = some i → i ≠ b := by
    intro i hi e
    rcases hlow i hi with h1 | h1 <;> rw [e, h.lb] at h1 <;> cases h1
  have hF : Ft lab b := by unfold Ft; rw [h.lb]; rfl
  have hb1 : w1.heap[b]? = some (.cells (mainCells A D) 102 (0, 0)) := by rw [hk1 _ _ h.lb (by simp)]; exact h.blk
  refine ⟨⟨?_, hml _ _ h.lb (by simp), h.names.same (hk _ _ h.lnm (by simp) (by simp)), hml _ _ h.lnm (by simp), h.sure.same (hk _ _ h.lsm (by simp) (by simp)), hml _ _ h.lsm (by simp), ?_, ?_, ?_, ?_⟩, ?_, ?_⟩
  · rw [blk_set hb1]; simp [mainCells]
  · refine ⟨⟨hrow.1, ?_⟩, fun g hg' => by unfold moveLab; rw [if_pos hg'.symm]⟩
    rcases hrow.2 with h2 | ⟨g, cap, cur, hv', hg', hh, r⟩
    · exact .inl h2
    · exact .inr ⟨g, cap, cur, hv', hg', by rw [blk_set_ne (hgb g (by rw [hv']; rfl))]; exact hh, r⟩
  · exact (h.fails.same (fun k hl => hk k _ hl (by simp) (by simp))).relab (fun k hl => hml k _ hl (by simp))
  · intro i f hf
    exact ((h.files i f hf).same (fun k p hl hp => hk k p hl (by rcases hp with rfl | rfl | rfl | rfl | rfl | rfl <;> simp) (by rcases hp with rfl | rfl | rfl | rfl | rfl | rfl <;> simp))).relab
      (fun k p hl hp => hml k p hl (by rcases hp with rfl | rfl | rfl | rfl | rfl | rfl <;> simp))
  · intro k p hl
    have hs : (w1.setCell ⟨b, 2, none⟩ v').heap.size = w1.heap.size := by simp
    rw [hs]
    have hB : B ≤ w.heap.size := Nat.le_of_lt (Nat.lt_of_le_of_lt (h.base b _ h.lb).1 (h.base b _ h.lb).2)
    have hsz := hg.size
    unfold moveLab at hl
    by_cases e : some k = v'.ownBlock
    · rcases hv with hv | hv
      · have := h.base k _ (h.waiting.lab k (by rw [← hv]; exact e.symm))
        omega
      · have := hv k e.symm
        omega
    · rw [if_neg e] at hl
      by_cases e2 : lab k = some .waiting
      · rw [if_pos e2] at hl; cases hl
      · rw [if_neg e2] at hl
        have := h.base k p hl
        omega
  · refine Frm.setCell ?_ _ _ (fun _ => hF)
    refine (Frm.of_grown hg).mono (fun k _ e => ?_)
    unfold Ft
    rw [h.waiting.lab k e.symm]; rfl
  · intro k hk' hl
    unfold Ft moveLab at hl
    by_cases e : some k = v'.ownBlock
    · rcases hv with hv | hv
      · unfold Ft
        rw [h.waiting.lab k (by rw [← hv]; exact e.symm)]; rfl
      · have := (hv k e.symm).1
        omega
    · rw [if_neg e] at hl
      by_cases e2 : lab k = some .waiting
      · unfold Ft; rw [e2]; rfl
      · rw [if_neg e2] at hl; exact hl
end
end Go.Proofs.YtkmmlfphcfcbgaaGreatDoor.Da

/- Maps in a loop: how many entries are still to come. -/
namespace Go.Proofs.YtkmmlfphcfcbgaaGreatDoor.Mp
open Go.RowKit Go.ChangeMaps
set_option linter.unusedVariables false
variable {α : Type} {enc : α → Value} {w : World} {m : Nat} {l : List (α × Value)}
/-- How many entries are still to come. -/
def leftIn (w : World) (it m : Nat) : Nat := match w.heap[m]?, w.heap[it]? with | some (.map es _), some (.mapIter _ _ seen _) => (es.toList.filter fun e => !seen.contains e.born).length | _, _ => 0
theorem IterAt.left {it : Nat} {todo : List (α × Value)} (h : IterAt enc w it m l todo) : leftIn w it m = todo.length := by
  obtain ⟨es, c, s, h1, h2, _, _, h5⟩ := h
  have := congrArg List.length h5
  simp only [List.length_map] at this
  unfold leftIn
  rw [h1, h2]
  exact this
end Go.Proofs.YtkmmlfphcfcbgaaGreatDoor.Mp

/- side.clone: a new side like it. -/
namespace Go.Proofs.YtkmmlfphcfcbgaaGreatDoor.Dw
open Go.RowKit Go.ChangeMaps Go.Proofs.YtkmmlfphcfcbgaaGreatDoor.Mp Go.Proofs.YtkmmlfphcfcbgaaGreatDoor.Dm Go.Proofs.YtkmmlfphcfcbgaaGreatDoor.Da
set_option linter.unusedVariables false
set_option linter.unusedSimpArgs false
set_option linter.unusedSectionVars false
/-- The entries of a set. -/
def ent (ks : List Int) : List (Int × Value) := ks.map fun k => (k, .int .i64 1)
theorem ent_perm {ks : List Int} {y : Int} {v : Value} {todo : List (Int × Value)} (h : (ent ks).Perm ((y, v) :: todo)) : v = .int .i64 1 ∧ ∃ tk, todo = ent tk ∧ ks.Perm (y :: tk) := by
  have hall : ∀ p, p ∈ (y, v) :: todo → p.2 = .int .i64 1 := fun p hp => by
    have := h.mem_iff.2 hp
    obtain ⟨k, _, rfl⟩ := List.mem_map.1 this
    rfl
  refine ⟨hall (y, v) List.mem_cons_self, todo.map (·.1), ?_, ?_⟩
  · unfold ent
    rw [List.map_map]
    have e : todo.map (fun p => (p.1, Value.int .i64 1)) = todo.map id := List.map_congr_left fun p hp => by
      have := hall p (List.mem_cons_of_mem _ hp)
      rw [← this]; rfl
    exact (e.trans (List.map_id _)).symm
  · have := h.map (·.1)
    simpa [ent, Function.comp_def] using this
theorem setL_ent {ks : List Int} {y : Int} (h : y ∉ ks) : setL (ent ks) y (.int .i64 1) = ent (ks ++ [y]) := by
  induction ks with
  | nil => rfl
  | cons k ks ih =>
    simp only [List.mem_cons, not_or] at h
    have := ih h.2
    unfold ent at this ⊢
    simp only [List.map_cons, List.cons_append]
    rw [setL_cons, this]
    simp [Ne.symm h.1]
/-- In clone's loop. -/
structure CloneInv (w wr : World) (v : Value) (m : Nat) (ks tk dk : List Int) : Prop where
  frm : Frm (fun _ => False) w wr
  s0 : wr.heap[w.heap.size]? = some (.cells #[v, .map (some m)] 142 (0, 0))
  s1 : wr.heap[w.heap.size + 1]? = some (.cells #[.slice none 0 0, .map none] 142 (0, 0))
  done : MapAt (Value.int .i64) wr (w.heap.size + 1 + 1) (ent dk)
  iter : IterAt (Value.int .i64) wr (w.heap.size + 1 + 1 + 1) m (ent ks) (ent tk)
  perm : (tk ++ dk).Perm ks
set_option maxHeartbeats 1000000 in
set_option maxRecDepth 100000 in
theorem clone_calls (v : Value) (xs : List Int) (m : Nat) (S : Nat → Bool) (w : World) (hv : (v = .slice none 0 0 ∧ xs = []) ∨ ∃ b off c, v = .slice (some ⟨b, off, none⟩) xs.length c ∧ ∀ j u, (u8s xs)[j]? = some u → w.cell? ⟨b, off + j, none⟩ = some u)
    (hS : SetAt w m S) (hn : xs.length ≤ 140737488355328) :
    Calls Tryz.prog 79 #[.agg #[v, .map (some m)]] w fun e w' => ∃ v' m', e = .returned (.agg #[v', .map (some m')]) ∧ w'.ownsRow w.heap.size 5 1 v' xs.length (u8s xs) ∧ SetAt w' m' S ∧ Below w.heap.size w w' ∧
      w.heap.size ≤ m' ∧ m' < w'.heap.size ∧ v'.ownBlock ≠ some m' := by
  have hmm := @run_makeMap Tryz.prog
  obtain ⟨ks, hks, hnd, hmem⟩ := hS
  change MapAt (Value.int .i64) w m (ent ks) at hks
  have HMem := Lib.hid hmem
  clear hmem
  have hmlt := hks.lt
  have key : ∃ p nn c, v = .slice p nn c ∧ ∀ W, Frm (fun _ => False) w W → Calls Tryz.prog 76 #[.slice p nn c] W fun e w' => ∃ v', e = .returned v' ∧ w'.ownsRow W.heap.size 5 1 v' xs.length (u8s xs) ∧ Below W.heap.size W w' := by
    rcases hv with ⟨rfl, rfl⟩ | ⟨b, off, c, rfl, hc⟩
    · refine ⟨none, 0, 0, rfl, fun W hW => (cloneB_calls (.slice none 0 0) [] W (.inl ⟨rfl, rfl⟩) (by simp)).mono ?_⟩
      rintro e w' ⟨v', rfl, h1, h2, _⟩
      exact ⟨v', rfl, h1, h2⟩
    · refine ⟨some ⟨b, off, none⟩, xs.length, c, rfl, fun W hW => (cloneB_calls _ xs W (.inr ⟨b, off, c, rfl, ?_⟩) hn).mono ?_⟩
      · intro j u hu
        rw [← hc j u hu]
        exact hW.cell (World.block_lt_of_cell? w _ (hc j u hu)) id
      · rintro e w' ⟨v', rfl, h1, h2, _⟩
        exact ⟨v', rfl, h1, h2⟩
  obtain ⟨p, nn, c, rfl, key⟩ := key
  have KEY := Lib.hid key
  clear key hv
  go_enter Tryz.func79, Tryz.ntmps79
  have F0 : Frm (fun _ => False) w (((w.alloc (.cells #[.slice p nn c, .map (some m)] 142)).alloc (.cells #[.slice none 0 0, .map none] 142)).alloc (.map #[] 0)) := ((((Frm.refl _ _).alloc _).alloc _).alloc _)
  have B0 : (((w.alloc (.cells #[.slice p nn c, .map (some m)] 142)).alloc (.cells #[.slice none 0 0, .map none] 142)).alloc (.map #[] 0)).heap[w.heap.size]? = some (.cells #[.slice p nn c, .map (some m)] 142 (0, 0)) := by
    rw [blk_alloc_lt (by simp only [World.size_alloc]; omega), blk_alloc_lt (by simp only [World.size_alloc]; omega)]; exact blk_alloc
  have B1 : (((w.alloc (.cells #[.slice p nn c, .map (some m)] 142)).alloc (.cells #[.slice none 0 0, .map none] 142)).alloc (.map #[] 0)).heap[w.heap.size + 1]? = some (.cells #[.slice none 0 0, .map none] 142 (0, 0)) := by
    rw [blk_alloc_lt (by simp only [World.size_alloc]; omega), show w.heap.size + 1 = (w.alloc (.cells #[.slice p nn c, .map (some m)] 142)).heap.size by simp only [World.size_alloc]]; exact blk_alloc
  have B2 : MapAt (Value.int .i64) (((w.alloc (.cells #[.slice p nn c, .map (some m)] 142)).alloc (.cells #[.slice none 0 0, .map none] 142)).alloc (.map #[] 0)) (w.heap.size + 1 + 1) (ent []) := by
    have := MapAt.made (enc := Value.int .i64) ((w.alloc (.cells #[.slice p nn c, .map (some m)] 142)).alloc (.cells #[.slice none 0 0, .map none] 142))
    simp only [World.size_alloc] at this
    exact this
  have S0 : (((w.alloc (.cells #[.slice p nn c, .map (some m)] 142)).alloc (.cells #[.slice none 0 0, .map none] 142)).alloc (.map #[] 0)).heap.size = w.heap.size + 1 + 1 + 1 := by simp only [World.size_alloc]
  have M0 : MapAt (Value.int .i64) (((w.alloc (.cells #[.slice p nn c, .map (some m)] 142)).alloc (.cells #[.slice none 0 0, .map none] 142)).alloc (.map #[] 0)) m (ent ks) := hks.of_block (F0.block m hmlt id)
  go_wp2_with (first | (at_range; generalize ((w.alloc (.cells #[.slice p nn c, .map (some m)] 142)).alloc (.cells #[.slice none 0 0, .map none] 142)).alloc (.map #[] 0) = W0 at *; refine wpl_range _ rfl _ rfl Tryz.underlying140 rfl M0 ?_; intro W1 hi1 hg1 hs1; rw [S0] at hi1 hs1 ⊢))
  have I1 : CloneInv w W1 (.slice p nn c) m ks ks [] := ⟨F0.grown hg1 (by simp), by rw [hg1.block _ (by omega) (by simp)]; exact B0, by rw [hg1.block _ (by omega) (by simp)]; exact B1,
    B2.of_block (hg1.block _ (by omega) (by simp)), hi1, by simp⟩
  clear F0 B0 B1 B2 S0 M0 hi1 hg1
  have HI := Lib.hid I1
  clear I1
  go_frame
  go_loopw [] (fun wr => ∃ tk dk, CloneInv w wr (.slice p nn c) m ks tk dk) (fun wr => leftIn wr (w.heap.size + 1 + 1 + 1) m)
  case atStart => exact ⟨ks, [], HI.out⟩
  case round =>
    obtain ⟨tk, dk, I⟩ := hrel
    have hsz : w.heap.size + 1 + 1 + 1 < wr.heap.size := by
      obtain ⟨es, cl, sn, _, hh, _⟩ := I.iter
      exact blk_lt hh
    have II := Lib.hid I
    have hI := I.iter
    have hD := I.done
    have c0 : wr.cell? ⟨w.heap.size, 0, none⟩ = some (.slice p nn c) := cell_of I.s0 rfl
    have hleft := I.iter.left
    clear I
    go_wp2_with (first | (at_next; refine wpl_next _ rfl _ rfl rfl hI (fun h0 => ?_) (fun y vv todo' w1 hp hi1 hg1 hs1 hen => ?_)) | (at_mapUpdate; refine wpl_update _ rfl _ _ _ rfl kI Tryz.underlying140 y rfl rfl (hD.of_block (hg1.block _ (by omega) (by simp))) (fun w2 hm2 hg2 hs2 => ?_)))
    · have htk : tk = [] := by simpa [ent] using h0
      subst htk
      refine (KEY.out wr II.out.frm).mono ?_
      rintro e w' ⟨v', rfl, hrow, hbel⟩
      have b1 : w'.heap[w.heap.size + 1]? = some (.cells #[.slice none 0 0, .map none] 142 (0, 0)) := by rw [hbel.block _ (by omega)]; exact II.out.s1
      have z0 : w'.cell? ⟨w.heap.size + 1, 0, none⟩ = some (.slice none 0 0) := cell_of b1 rfl
      have z1 : w'.cell? ⟨w.heap.size + 1, 1, none⟩ = some (.map none) := cell_of b1 rfl
      have z2 : w'.frozen? ⟨w.heap.size + 1, 0, none⟩ = false := frozen_of b1
      have z3 : w'.frozen? ⟨w.heap.size + 1, 1, none⟩ = false := frozen_of b1
      have hb2 : w'.heap[w.heap.size + 1 + 1]? = wr.heap[w.heap.size + 1 + 1]? := hbel.block _ (by omega)
      have hD' : MapAt (Value.int .i64) w' (w.heap.size + 1 + 1) (ent dk) := hD.of_block hb2
      have hperm : dk.Perm ks := by simpa using II.out.perm
      have hfin : Hid (∀ u1 u2, ∃ v'' m', v' = v'' ∧ m' = w.heap.size + 1 + 1 ∧ ((w'.setCell ⟨w.heap.size + 1, 0, none⟩ u1).setCell ⟨w.heap.size + 1, 1, none⟩ u2).ownsRow w.heap.size 5 1 v'' xs.length (u8s xs) ∧ SetAt ((w'.setCell ⟨w.heap.size + 1, 0, none⟩ u1).setCell ⟨w.heap.size + 1, 1, none⟩ u2) m' S ∧
          Below w.heap.size w ((w'.setCell ⟨w.heap.size + 1, 0, none⟩ u1).setCell ⟨w.heap.size + 1, 1, none⟩ u2) ∧ w.heap.size ≤ m' ∧ m' < ((w'.setCell ⟨w.heap.size + 1, 0, none⟩ u1).setCell ⟨w.heap.size + 1, 1, none⟩ u2).heap.size ∧ v''.ownBlock ≠ some m') := by
        intro u1 u2
        refine ⟨v', _, rfl, rfl, ⟨hrow.1, ?_⟩, ⟨dk, ?_, hperm.nodup_iff.2 hnd, fun k => (hperm.mem_iff).trans (HMem.out k)⟩, ?_, by omega, ?_, ?_⟩
        · rcases hrow.2 with h2 | ⟨g, cap, cur, hv', hg', hh, r⟩
          · exact .inl h2
          · exact .inr ⟨g, cap, cur, hv', by omega, by rw [blk_set_ne (by omega), blk_set_ne (by omega)]; exact hh, r⟩
        · exact hD'.of_block (by rw [blk_set_ne (by omega), blk_set_ne (by omega)])
        · have hf := II.out.frm.trans (Frm.of_below hbel (fun _ => False)) (fun _ _ h => h)
          exact (((hf.setCell _ _ (fun h => by simp at h; omega)).setCell _ _ (fun h => by simp at h; omega))).below (fun _ h => h.elim) (Nat.le_refl _)
        · have := hbel.size
          simp only [World.size_setCell]
          omega
        · intro e
          rcases hrow.2 with ⟨h2, _⟩ | ⟨g, cap, cur, hv', hg', hh, r⟩
          · rw [h2] at e; simp [Value.ownBlock] at e
          · rw [hv'] at e
            have : g = w.heap.size + 1 + 1 := by simpa [Value.ownBlock] using e
            omega
      have hce : Hid (∀ u1 u2, (w'.setCell ⟨w.heap.size + 1, 0, none⟩ u1).cell? ⟨w.heap.size + 1, 0, none⟩ = some u1 ∧ ((w'.setCell ⟨w.heap.size + 1, 0, none⟩ u1).setCell ⟨w.heap.size + 1, 1, none⟩ u2).cell? ⟨w.heap.size + 1, 1, none⟩ = some u2) := by
        intro u1 u2
        exact ⟨cell_of (blk_set b1) rfl, cell_of (blk_set (blk_set b1)) rfl⟩
      have hvs : v' = .slice none 0 0 ∨ ∃ g cap, v' = .slice (some ⟨g, 0, none⟩) xs.length cap := by
        rcases hrow.2 with ⟨h2, _⟩ | ⟨g, cap, cur, hv', hg', hh, r⟩
        · exact .inl h2
        · exact .inr ⟨g, cap, hv'⟩
      clear hrow hbel b1 hb2 hD' hperm c0 hD hI hleft
      rcases hvs with rfl | ⟨g, cap, rfl⟩ <;> (
        go_wp2_with fail
        obtain ⟨v'', m', rfl, rfl, r⟩ := hfin.out _ _
        have y0 := fun u1 => (hce.out u1 .nilIface).1
        have y1 := fun u1 u2 => (hce.out u1 u2).2
        exact bodyPost_ret (by simp [results, Tryz.results79, go_sem, y0, y1]) rfl ⟨_, _, rfl, r⟩)
    · obtain ⟨rfl, tk', rfl, hp'⟩ := ent_perm hp
      have hI2 : IterAt (Value.int .i64) w2 (w.heap.size + 1 + 1 + 1) m (ent ks) (ent tk') := hi1.of_block (hg2.block _ (by have := hg1.size; omega) (by simp; omega)) (hg2.block _ (by have := hg1.size; omega) (by simp))
      have hnd2 : (tk ++ dk).Nodup := II.out.perm.nodup_iff.2 hnd
      have hy : y ∉ dk := fun h => (List.nodup_append.1 hnd2).2.2 y (hp'.mem_iff.2 List.mem_cons_self) y h rfl
      refine ⟨⟨_, _, _, _, _, _, _, ⟨tk', dk ++ [y], ⟨?_, ?_, ?_, ?_, hI2, ?_⟩⟩, rfl⟩, ?_⟩
      · exact (II.out.frm.grown hg1 (fun k e hk => by have := Option.some.inj e; omega)).grown hg2 (fun k e hk => by have := Option.some.inj e; omega)
      · rw [hg2.block _ (by have := hg1.size; omega) (by simp; omega), hg1.block _ (by omega) (by simp; omega)]; exact II.out.s0
      · rw [hg2.block _ (by have := hg1.size; omega) (by simp), hg1.block _ (by omega) (by simp)]; exact II.out.s1
      · rw [← setL_ent hy]; exact hm2
      · refine List.Perm.trans ?_ II.out.perm
        refine List.Perm.trans ?_ (hp'.symm.append_right dk)
        rw [← List.append_assoc]
        exact List.perm_append_singleton y (tk' ++ dk)
      · rw [hI2.left, hleft]
        have := hp'.length_eq
        simp [ent] at this ⊢
        omega
end Go.Proofs.YtkmmlfphcfcbgaaGreatDoor.Dw

/- One file of a disk in memory has turned. -/
namespace Go.Proofs.YtkmmlfphcfcbgaaGreatDoor.Da
open Go.RowKit Go.ChangeMaps Go.Proofs.YtkmmlfphcfcbgaaGreatDoor.Mp Go.Proofs.YtkmmlfphcfcbgaaGreatDoor.Dm
set_option linter.unusedVariables false
set_option linter.unusedSimpArgs false
set_option linter.unusedSectionVars false
/-- A label of file i's. -/
def isOf (i : Nat) (p : Lb) : Prop := p = .file i ∨ p = .sd i ∨ p = .sb i ∨ p = .ad i ∨ p = .ab i ∨ p = .wb i
section
variable {B : Nat} {w w' : World} {b : Nat} {A : Adr} {lab lab' : Nat → Option Lb} {D : Disk}
theorem DiskAt.setFile (h : DiskAt B w b A lab D) {i : Nat} {f : FileS} (hf : D.files[i]? = some f) (g : FileS → FileS) {a' : FAdr} (hfile : FileAt w' lab' i a' (g f)) (hfb : a'.fb = (A.fa i).fb)
    (hk : ∀ k p, lab k = some p → ¬ isOf i p → w'.heap[k]? = w.heap[k]? ∧ lab' k = some p) (hn : ∀ k p, lab' k = some p → B ≤ k ∧ k < w'.heap.size) (hfr : Frm (Ft lab) w w') (hl : ∀ k, k < w.heap.size → Ft lab' k → Ft lab k) :
    Ext B b lab w w' (D.modify i g) := by
  have hfp : ∀ j, fptr (A.withFile i a') j = fptr A j := by
    intro j
    unfold fptr Adr.withFile
    simp only []
    by_cases hj : j = i
    · rw [if_pos hj, hj, hfb]
    · rw [if_neg hj]
  have hlen : (D.modify i g).files.length = D.files.length := by unfold Disk.modify; simp
  refine ⟨A.withFile i a', lab', ⟨?_, (hk _ _ h.lb (by simp [isOf])).2, ?_, (hk _ _ h.lnm (by simp [isOf])).2, ?_, (hk _ _ h.lsm (by simp [isOf])).2, ?_, ?_, ?_, hn⟩, hfr, hl⟩
  · rw [(hk _ _ h.lb (by simp [isOf])).1, h.blk]
    unfold mainCells
    rw [hlen]; rfl
  · exact (h.names.same (hk _ _ h.lnm (by simp [isOf])).1).congr (fun p _ => hfp _)
  · exact (h.sure.same (hk _ _ h.lsm (by simp [isOf])).1).congr (fun p _ => hfp _)
  · have := (h.waiting.same (w' := w') (fun k hl => (hk k _ hl (by simp [isOf])).1)).relab (lab' := lab') (fun k hl => (hk k _ hl (by simp [isOf])).2)
    rw [← chg_congr (A' := A.withFile i a') (fun c _ p _ => hfp _)] at this
    exact this
  · exact (h.fails.same (w' := w') (fun k hl => (hk k _ hl (by simp [isOf])).1)).relab (fun k hl => (hk k _ hl (by simp [isOf])).2)
  · intro j fj hj
    by_cases e : j = i
    · subst e
      have : fj = g f := by
        unfold Disk.modify at hj
        simp only [List.getElem?_modify_eq, hf, Option.map_some] at hj
        exact (Option.some.inj hj).symm
      subst this
      have e : (A.withFile j a').fa j = a' := by unfold Adr.withFile; simp
      rw [e]
      exact hfile
    · have hj' : D.files[j]? = some fj := by
        unfold Disk.modify at hj
        simpa [List.getElem?_modify, Ne.symm e] using hj
      have hno : ∀ p, (p = .file j ∨ p = .sd j ∨ p = .sb j ∨ p = .ad j ∨ p = .ab j ∨ p = .wb j) → ¬ isOf i p := by
        rintro p (rfl | rfl | rfl | rfl | rfl | rfl) <;> simp [isOf, e]
      have h1 := (h.files j fj hj').same (w' := w') (fun k p hl hp => (hk k p hl (hno p hp)).1)
      have h2 := h1.relab (lab' := lab') (fun k p hl hp => (hk k p hl (hno p hp)).2)
      have e : (A.withFile i a').fa j = A.fa j := by unfold Adr.withFile; simp [e]
      rw [e]
      exact h2
/-- The file that a name leads to. -/
theorem WF.file (hw : WF D) {n : Name} {i : Nat} (hi : find D.now n = some i) : ∃ f, D.files[i]? = some f := by
  have := hw.nowI (n, i) ((find_mem hw.nowN n i).1 hi)
  exact ⟨D.files[i], List.getElem?_eq_getElem this⟩
theorem ownsRow.low {w : World} {base e size n : Nat} {v : Value} {xs : List Value} (h : w.ownsRow base e size v n xs) : w.ownsRow 0 e size v n xs := by
  refine ⟨h.1, ?_⟩
  rcases h.2 with h2 | ⟨g, cap, cur, hv, hg, r⟩
  · exact .inl h2
  · exact .inr ⟨g, cap, cur, hv, Nat.zero_le _, r⟩
theorem ownsRow.at {w : World} {base e size n : Nat} {v : Value} {xs : List Value} (h : w.ownsRow base e size v n xs) {g : Nat} (hg : v.ownBlock = some g) : base ≤ g ∧ g < w.heap.size := by
  rcases h.2 with ⟨h2, _⟩ | ⟨g', cap, cur, hv, hg', hh, r⟩
  · rw [h2] at hg; simp [Value.ownBlock] at hg
  · rw [hv] at hg
    have : g' = g := by simpa [Value.ownBlock] using hg
    subst this
    exact ⟨hg', blk_lt hh⟩
theorem ownsRow.same {w w' : World} {base e size n : Nat} {v : Value} {xs : List Value} (h : w.ownsRow base e size v n xs) (hk : ∀ g, v.ownBlock = some g → w'.heap[g]? = w.heap[g]?) : w'.ownsRow base e size v n xs := by
  refine ⟨h.1, ?_⟩
  rcases h.2 with h2 | ⟨g', cap, cur, hv, hg', hh, r⟩
  · exact .inl h2
  · exact .inr ⟨g', cap, cur, hv, hg', by rw [hk g' (by rw [hv]; rfl)]; exact hh, r⟩
/-- Sync's labels. -/
def syncLab (lab : Nat → Option Lb) (i : Nat) (g : Option Nat) (m : Nat) : Nat → Option Lb := fun k =>
  if some k = g then some (.ad i) else if k = m then some (.ab i) else if lab k = some (.ad i) ∨ lab k = some (.ab i) then none else lab k
/-- A file's bytes are made safe: safe's row and set are new, the waiting sectors are none. -/
theorem DiskAt.syncFile (h : DiskAt B w b A lab D) {i : Nat} {f : FileS} (hf : D.files[i]? = some f) {w1 w3 : World} (hb : Below w.heap.size w w1) {v' : Value} {m' : Nat} (hrow : w1.ownsRow w.heap.size 5 1 v' f.seen.length (u8s f.seen)) (hS : SetAt w1 m' f.badSeen)
    (hm1 : w.heap.size ≤ m') (hm2 : m' < w1.heap.size) (hne : v'.ownBlock ≠ some m') (hw : MapAt (Value.int .i64) w3 (A.fa i).wb ([] : List (Int × Value)))
    (hg : ((w1.setCell ⟨(A.fa i).fb, 3, none⟩ v').setCell ⟨(A.fa i).fb, 4, none⟩ (.map (some m'))).grownBy w3 (some (A.fa i).wb)) : Ext B b lab w w3 (D.modify i FileS.sync) := by
  have F := h.files i f hf
  have hsz : w.heap.size ≤ w1.heap.size := hb.size
  have hs3 : w1.heap.size ≤ w3.heap.size := by have := hg.size; simpa using this
  have fblt : (A.fa i).fb < w.heap.size := (h.base _ _ F.lfb).2
  have hnew : ∀ k, w.heap.size ≤ k → k < w1.heap.size → w3.heap[k]? = w1.heap[k]? := by
    intro k h1 h2
    rw [hg.block k (by simp; omega) (by intro e; have := Option.some.inj e; have := (h.base _ _ F.lwb).2; omega), blk_set_ne (by omega), blk_set_ne (by omega)]
  have hold : ∀ k p, lab k = some p → p ≠ .file i → p ≠ .wb i → w3.heap[k]? = w.heap[k]? := by
    intro k p hl h1 h2
    have hlt := (h.base k p hl).2
    have n1 : k ≠ (A.fa i).fb := ne_of_lab hl F.lfb h1
    have n2 : k ≠ (A.fa i).wb := ne_of_lab hl F.lwb h2
    rw [hg.block k (by simp; omega) (by simpa using n2), blk_set_ne n1, blk_set_ne n1, hb.block k hlt]
  have hgnew : ∀ g, v'.ownBlock = some g → w.heap.size ≤ g ∧ g < w1.heap.size := fun g e => ownsRow.at hrow e
  have hlabOld : ∀ k p, lab k = some p → p ≠ .ad i → p ≠ .ab i → syncLab lab i v'.ownBlock m' k = some p := by
    intro k p hl h1 h2
    have hlt := (h.base k p hl).2
    unfold syncLab
    rw [if_neg (by intro e; have := (hgnew k e.symm).1; omega), if_neg (by omega), if_neg (by rw [hl]; simp [h1, h2]), hl]
  refine h.setFile hf FileS.sync (a' := { A.fa i with ad := v', ab := m' }) (lab' := syncLab lab i v'.ownBlock m') ⟨?_, hlabOld _ _ F.lfb (by simp) (by simp), ?_, ?_, ?_, hlabOld _ _ F.lsb (by simp) (by simp), ?_, ?_, ?_, hlabOld _ _ F.lwb (by simp) (by simp)⟩ rfl ?_ ?_ ?_ ?_
  · have : w1.heap[(A.fa i).fb]? = some _ := (hb.block _ fblt).trans F.blk
    rw [hg.block _ (by simp; omega) (by simpa using ne_of_lab F.lfb F.lwb (by simp)), blk_set (blk_set this)]
    rfl
  · exact (F.seen.same (w' := w3) (fun k hl => hold k _ hl (by simp) (by simp))).relab (fun k hl => hlabOld k _ hl (by simp) (by simp))
  · refine ⟨ownsRow.low (ownsRow.same hrow (fun g e => hnew g (hgnew g e).1 (hgnew g e).2)), fun g e => ?_⟩
    unfold syncLab; rw [if_pos e.symm]
  · exact F.badSeen.same (hold _ _ F.lsb (by simp) (by simp))
  · exact hS.same (hnew _ hm1 hm2)
  · show syncLab lab i v'.ownBlock m' m' = _
    unfold syncLab
    rw [if_neg (fun e => hne e.symm), if_pos rfl]
  · exact SetAt.none hw
  · intro k p hl hp
    have hno : p ≠ .file i ∧ p ≠ .wb i ∧ p ≠ .ad i ∧ p ≠ .ab i := by
      refine ⟨?_, ?_, ?_, ?_⟩ <;> (rintro rfl; exact hp (by simp [isOf]))
    exact ⟨hold k p hl hno.1 hno.2.1, hlabOld k p hl hno.2.2.1 hno.2.2.2⟩
  · intro k p hl
    have hB : B ≤ w.heap.size := Nat.le_of_lt (Nat.lt_of_le_of_lt (h.base b _ h.lb).1 (h.base b _ h.lb).2)
    unfold syncLab at hl
    by_cases e1 : some k = v'.ownBlock
    · have := hgnew k e1.symm; omega
    · rw [if_neg e1] at hl
      by_cases e2 : k = m'
      · omega
      · rw [if_neg e2] at hl
        by_cases e3 : lab k = some (.ad i) ∨ lab k = some (.ab i)
        · rw [if_pos e3] at hl; cases hl
        · rw [if_neg e3] at hl
          have := h.base k p hl; omega
  · have f1 : Frm (Ft lab) w ((w1.setCell ⟨(A.fa i).fb, 3, none⟩ v').setCell ⟨(A.fa i).fb, 4, none⟩ (.map (some m'))) :=
      ((Frm.of_below hb _).setCell _ _ (fun _ => by unfold Ft; rw [F.lfb]; rfl)).setCell _ _ (fun _ => by unfold Ft; rw [F.lfb]; rfl)
    exact f1.grown hg (fun k e _ => by unfold Ft; rw [← Option.some.inj e, F.lwb]; rfl)
  · intro k hlt hl
    unfold Ft syncLab at hl
    by_cases e1 : some k = v'.ownBlock
    · have := hgnew k e1.symm; omega
    · rw [if_neg e1] at hl
      by_cases e2 : k = m'
      · omega
      · rw [if_neg e2] at hl
        by_cases e3 : lab k = some (.ad i) ∨ lab k = some (.ab i)
        · rw [if_pos e3] at hl; cases hl
        · rw [if_neg e3] at hl; exact hl
end
end Go.Proofs.YtkmmlfphcfcbgaaGreatDoor.Da

/- Sets of sectors: one more, one less; bytes behind a row. -/
namespace Go.Proofs.YtkmmlfphcfcbgaaGreatDoor.Dw
open Go.RowKit Go.ChangeMaps Go.Proofs.YtkmmlfphcfcbgaaGreatDoor.Mp Go.Proofs.YtkmmlfphcfcbgaaGreatDoor.Dm Go.Proofs.YtkmmlfphcfcbgaaGreatDoor.Da
set_option linter.unusedVariables false
set_option linter.unusedSimpArgs false
set_option linter.unusedSectionVars false
theorem setL_ent_mem {ks : List Int} {y : Int} (h : y ∈ ks) : setL (ent ks) y (.int .i64 1) = ent ks := by
  induction ks with
  | nil => cases h
  | cons k ks ih =>
    unfold ent at ih ⊢
    simp only [List.map_cons]
    rw [setL_cons]
    by_cases e : k = y
    · simp [e]
    · rcases List.mem_cons.1 h with h1 | h1
      · exact absurd h1.symm e
      · simp only [e, if_false]; rw [ih h1]
theorem delL_ent {ks : List Int} {y : Int} : delL (ent ks) y = ent (ks.erase y) := by
  induction ks with
  | nil => rfl
  | cons k ks ih =>
    unfold ent at ih ⊢
    simp only [List.map_cons]
    rw [delL_cons]
    by_cases e : k = y
    · simp [e]
    · simp only [e, if_false]; rw [ih, List.erase_cons_tail (by simpa using e)]; rfl
/-- One sector more. -/
theorem SetAt.ins {w : World} {m : Nat} {S : Nat → Bool} {ks : List Int} (hnd : ks.Nodup) (hmem : ∀ k : Int, k ∈ ks ↔ 0 ≤ k ∧ S k.toNat = true) (y : Nat) (h : MapAt (Value.int .i64) w m (setL (ent ks) (y : Int) (.int .i64 1))) :
    SetAt w m (fun j => S j || decide (j = y)) := by
  by_cases hy : (y : Int) ∈ ks
  · rw [setL_ent_mem hy] at h
    refine ⟨ks, h, hnd, fun k => ?_⟩
    rw [hmem k]
    constructor
    · rintro ⟨h1, h2⟩; exact ⟨h1, by simp [h2]⟩
    · rintro ⟨h1, h2⟩
      refine ⟨h1, ?_⟩
      rcases Bool.or_eq_true _ _ ▸ h2 with h3 | h3
      · exact h3
      · have : k = (y : Int) := by have := of_decide_eq_true h3; omega
        rw [this] ; exact ((hmem y).1 hy).2
  · rw [setL_ent hy] at h
    refine ⟨ks ++ [(y : Int)], h, ?_, fun k => ?_⟩
    · rw [List.nodup_append]
      exact ⟨hnd, by simp, by rintro a ha b hb rfl; exact hy (by simpa using (by simpa using hb : a = (y : Int)) ▸ ha)⟩
    · rw [List.mem_append, hmem k, List.mem_singleton]
      constructor
      · rintro (⟨h1, h2⟩ | h1)
        · exact ⟨h1, by simp [h2]⟩
        · subst h1; exact ⟨by omega, by simp⟩
      · rintro ⟨h1, h2⟩
        rcases Bool.or_eq_true _ _ ▸ h2 with h3 | h3
        · exact .inl ⟨h1, h3⟩
        · right; have := of_decide_eq_true h3; omega
/-- One sector less. -/
theorem SetAt.del {w : World} {m : Nat} {S : Nat → Bool} {ks : List Int} (hnd : ks.Nodup) (hmem : ∀ k : Int, k ∈ ks ↔ 0 ≤ k ∧ S k.toNat = true) (y : Nat) (h : MapAt (Value.int .i64) w m (delL (ent ks) (y : Int))) :
    SetAt w m (fun j => S j && !decide (j = y)) := by
  rw [delL_ent] at h
  refine ⟨ks.erase y, h, hnd.erase _, fun k => ?_⟩
  rw [hnd.mem_erase_iff, hmem k]
  constructor
  · rintro ⟨h1, h2, h3⟩
    refine ⟨h2, ?_⟩
    show (S k.toNat && !decide (k.toNat = y)) = true
    rw [h3]; simp; omega
  · rintro ⟨h1, h2⟩
    simp only [Bool.and_eq_true, Bool.not_eq_true', decide_eq_false_iff_not] at h2
    exact ⟨by omega, h1, h2.1⟩
theorem SetAt.congr {w : World} {m : Nat} {S T : Nat → Bool} (h : SetAt w m S) (e : ∀ j, S j = T j) : SetAt w m T := by
  have : S = T := funext e
  rwa [← this]
/-- Bytes come out of a slice. -/
def FromAt (w : World) (v : Value) (xs : List Int) : Prop := (v = .slice none 0 0 ∧ xs = []) ∨ (∃ a off c, v = .slice (some ⟨a, off, none⟩) xs.length c ∧ ∀ j u, (u8s xs)[j]? = some u → w.cell? ⟨a, off + j, none⟩ = some u) ∨ ∃ p c, v = .slice p 0 c ∧ xs = []
section
variable {w : World} {ops : Array Oper} {rest : List Oper} {o : Oper} {a : Act} {Q : Exit → Act → World → Prop}
/-- Bytes behind a row of bytes, whatever the source (none of them too). -/
theorem wpl_append_bytes (hgd : o.guard = none) (s x : Operand) (ho : o.op = .call { callee := .builtin .append, args := #[s, x], argTypes := #[36, 36] })
    {v : Value} {xs : List Int} (hs : a.eval s = v) (hown : w.ownsRow 0 5 1 v xs.length (u8s xs)) {xv : Value} {ys : List Int} (hx : a.eval x = xv) (hy : FromAt w xv ys) (hlen : xs.length + ys.length ≤ 140737488355328)
    (h : ∀ p c w', w'.ownsRow 0 5 1 (.slice p (xs.length + ys.length) c) (xs ++ ys).length (u8s (xs ++ ys)) → w.grownBy w' v.ownBlock →
      ((Value.slice p (xs.length + ys.length) c).ownBlock = v.ownBlock ∨ ∀ g, (Value.slice p (xs.length + ys.length) c).ownBlock = some g → w.heap.size ≤ g ∧ g < w'.heap.size) → wpList Tryz.prog ops Q rest (a.put o.dst (.slice p (xs.length + ys.length) c)) w') :
    wpList Tryz.prog ops Q (o :: rest) a w := by
  obtain ⟨i0, hi0, hz0, hz1, hz2⟩ := info_parts byteInfo
  have hmx : maxLen = 9223372036854775807 := by decide
  have hform : ∃ p c, v = .slice p xs.length c ∧ xs.length ≤ c := by
    rcases hown.2 with ⟨h1, h2⟩ | ⟨g, cap, cur, hv, _, _, h3, _⟩
    · exact ⟨none, 0, by rw [h1, h2], by omega⟩
    · exact ⟨_, _, hv, h3⟩
  by_cases h0 : ys = []
  · subst h0
    obtain ⟨p, c, rfl, hc⟩ := hform
    have hsrc : Src Tryz.prog i0.size 36 xv 0 [] w := by
      rcases hy with ⟨rfl, _⟩ | ⟨b, off, cc, rfl, _⟩ | ⟨ad, cc, rfl, _⟩
      · exact Src.ofNil w Tryz.underlying36 0
      · exact Src.ofSlice w Tryz.underlying36 ⟨b, off, none⟩ 0 cc [] (by simp) (by simp) (by simp)
      · cases ad with
        | none => exact Src.ofNil w Tryz.underlying36 cc
        | some ad => exact Src.ofSlice w Tryz.underlying36 ad 0 cc [] (by simp) (by simp) (by simp)
    have hrun := run_append_nothing w 36 36 o.type 5 i0 Tryz.underlying36 hi0 p xs.length c hc xv hsrc
    refine wpList_plain hgd fun K hK => ?_
    unfold Oper.wp
    simp only [execOp, ho, resolve, invoke, builtin, Sem.run_bind, Sem.run_pure, Result.andThen_ok, List.map_toArray, List.map_cons, List.map_nil, hs, hx, hrun]
    exact hK _ _ (h p c w (by simpa using hown) (World.grownBy.refl _ _) (.inl rfl))
  · rcases hy with ⟨_, h1⟩ | ⟨b, off, cc, rfl, hc⟩ | ⟨_, _, _, h1⟩
    · exact absurd h1 h0
    rotate_left
    · exact absurd h1 h0
    · have hpos : 0 < ys.length := List.length_pos_iff.2 h0
      refine wpList_append_lies w hgd s x 36 ho 0 5 i0 _ 1 1 Tryz.underlying36 hi0 hz0 hz1 hz2 rfl (by omega) v xs.length (u8s xs) hs hown ⟨b, off, none⟩ ys.length cc (u8s ys) hx (by simp [u8s]) (fun j u hu => by
        have := hc j u hu
        have e : (⟨b, off, none⟩ : Addr).add j = ⟨b, off + j, none⟩ := by unfold Addr.add; split <;> simp_all
        rw [e]; exact this) mem_oneCell hpos (by omega) (by omega) (Nat.zero_le _) w.heap.size rfl ?_
      intro g cap w' h2 h3 h4 h5
      refine h _ _ w' (by simpa [u8s] using h2) h3 ?_
      rcases h4 with h4 | h4
      · exact .inl h4.symm
      · refine .inr fun g' e => ?_
        have : g = g' := by simpa [Value.ownBlock] using e
        omega
end
end Go.Proofs.YtkmmlfphcfcbgaaGreatDoor.Dw
