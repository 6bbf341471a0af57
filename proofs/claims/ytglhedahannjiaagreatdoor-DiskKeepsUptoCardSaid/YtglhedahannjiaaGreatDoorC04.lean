/- A part of the proof of diskDown_holds: Ec, Dz, Db, Dw1, Mq, Dy. No condition. -/
import Derived.Ground.SlgmProg
import Derived.Shelf.SortM.Plain
import Derived.Shelf.SortM.SortNone
import Derived.Sort.OwnSorted
import Derived.Ground.SlgnProg
import Derived.Shelf.SlicesE.Clone
import Derived.Test.YtglhedahannjiaaGreatDoorC03

/- slices.Sort at whole numbers and at strings, by the shelf. -/
namespace Go.Proofs.YtglhedahannjiaaGreatDoor.Dw
open Go.RowKit Go.ChangeMaps Go.Proofs.YtglhedahannjiaaGreatDoor.Mp Go.Proofs.YtglhedahannjiaaGreatDoor.Dm Go.Proofs.YtglhedahannjiaaGreatDoor.Da Go.Shelf Go.Sort
set_option linter.unusedVariables false
set_option linter.unusedSimpArgs false
set_option linter.unusedSectionVars false
section
variable {α : Type} [Inhabited α] {enc : α → Value}
theorem enc_holds {w : World} {g : Nat} {cur : Array Value} {e : TypeId} {ss : List α} (hb : w.heap[g]? = some (.cells cur e (0, 0))) (ht : cur.toList.take ss.length = ss.map enc) : Holds enc w g 0 ss.toArray := by
  intro j hj
  have hj' : j < ss.length := by simpa using hj
  refine ⟨?_, by simp [World.frozen?, hb]⟩
  have h1 : (cur.toList.take ss.length)[j]? = (ss.map enc)[j]? := by rw [ht]
  rw [List.getElem?_take_of_lt hj'] at h1
  simp only [World.cell?, hb, Nat.zero_add]
  simp only [Option.isSome_none, Bool.false_eq_true, if_false]
  rw [← Array.getElem?_toList, h1]
  simp [hj']
theorem enc_heap {w : World} {g n : Nat} {os : Array Obj} {cur : Array Value} {e : TypeId} {fr : Nat × Nat} (d : Array α) (hb : w.heap[g]? = some (.cells cur e fr)) :
    (grow (putRow enc (Sort.ahead w n) g 0 d) os).heap[g]? = some (.cells (putCells enc 0 d cur) e fr) := by
  have hg : g < w.heap.size := (Array.getElem?_eq_some_iff.1 hb).1
  rw [heap_grow_old _ _ (by simpa using hg)]
  simp [putRow, mapBlock, Sort.ahead, Array.getElem?_modify, hb, onCells]
theorem enc_grown {w : World} {g n : Nat} {os : Array Obj} (d : Array α) : w.grownBy (grow (putRow enc (Sort.ahead w n) g 0 d) os) (some g) := by
  refine ⟨rfl, rfl, rfl, by simp, fun k hk hne => ?_⟩
  rw [heap_grow_old _ _ (by simpa using hk)]
  have : g ≠ k := fun e => hne (by rw [e])
  simp [putRow, mapBlock, Sort.ahead, Array.getElem?_modify, this]
theorem enc_take (cur : Array Value) (ts : List α) (h : ts.length ≤ cur.size) : (putCells enc 0 ts.toArray cur).toList.take ts.length = ts.map enc := by
  apply List.ext_getElem?
  intro j
  by_cases hj : j < ts.length
  · rw [List.getElem?_take_of_lt hj, Array.getElem?_toList]
    simp [putCells, hj, show j < cur.size by omega]
  · rw [List.getElem?_take_eq_none (by omega), List.getElem?_eq_none (by simp; omega)]
theorem enc_owns {w : World} {base g cap n : Nat} {e : TypeId} {os : Array Obj} {cur : Array Value} {ss ts : List α} (hl : ts.length = ss.length) (hbase : base ≤ g) (hb : w.heap[g]? = some (.cells cur e (0, 0)))
    (h1 : ss.length ≤ cap) (h2 : cap ≤ maxLen) (h3 : cur.size = cap * 1) :
    (grow (putRow enc (Sort.ahead w n) g 0 ts.toArray) os).ownsRow base e 1 (.slice (some ⟨g, 0, none⟩) ss.length cap) ss.length (ts.map enc) :=
  ⟨by simp [hl], .inr ⟨g, cap, _, rfl, hbase, enc_heap _ hb, h1, h2, by simp [putCells, h3], by rw [Nat.mul_one, ← hl]; exact enc_take cur ts (by omega)⟩⟩
end
def leI (x y : Int) : Bool := decide (x ≤ y)
def leL (x y : List UInt8) : Bool := decide (x ≤ y)
def i64s (xs : List Int) : List Value := xs.map (Value.int .i64)
theorem sortI_calls (w : World) (base : Nat) (e : TypeId) (p : Option Addr) (c : Nat) (xs : List Int) (h : w.ownsRow base e 1 (.slice p xs.length c) xs.length (i64s xs)) (hl : xs.length < 4611686018427387904) :
    Calls Tryz.prog 105 #[.slice p xs.length c] w fun r w' => r = .returned (.tuple #[]) ∧ w'.ownsRow base e 1 (.slice p xs.length c) xs.length (i64s (xs.mergeSort leI)) ∧ w.grownBy w' (Value.slice p xs.length c).ownBlock := by
  rcases h.2 with ⟨hv, hn⟩ | ⟨g, cap, cur, hv, hg, hh, h1, h2, h3, h4⟩
  · have hx : xs = [] := List.eq_nil_of_length_eq_zero hn
    subst hx
    refine (AnyM.slices_Sort_int_none sortI_lays p c w).mono ?_
    rintro r w' ⟨rfl, rfl⟩
    exact ⟨rfl, by simpa using h, World.grownBy.refl _ _⟩
  · simp only [Value.slice.injEq, true_and] at hv
    obtain ⟨rfl, rfl⟩ := hv
    refine (AnyM.slices_Sort_int sortI_lays g 0 c xs w (enc_holds hh (by simpa [i64s] using h4)) (blk_lt hh) hl).mono ?_
    rintro r w' ⟨rfl, n, os, rfl⟩
    exact ⟨rfl, enc_owns (by simp) hg hh h1 h2 h3, enc_grown _⟩
theorem sortS_calls (w : World) (base : Nat) (e : TypeId) (p : Option Addr) (c : Nat) (xs : List (List UInt8)) (h : w.ownsRow base e 1 (.slice p xs.length c) xs.length (xs.map encStr)) (hl : xs.length < 4611686018427387904) :
    Calls Tryz.prog 101 #[.slice p xs.length c] w fun r w' => r = .returned (.tuple #[]) ∧ w'.ownsRow base e 1 (.slice p xs.length c) xs.length ((xs.mergeSort leL).map encStr) ∧ w.grownBy w' (Value.slice p xs.length c).ownBlock := by
  rcases h.2 with ⟨hv, hn⟩ | ⟨g, cap, cur, hv, hg, hh, h1, h2, h3, h4⟩
  · have hx : xs = [] := List.eq_nil_of_length_eq_zero hn
    subst hx
    refine (AnyM.slices_Sort_string_none sortS_lays p c w).mono ?_
    rintro r w' ⟨rfl, rfl⟩
    exact ⟨rfl, by simpa using h, World.grownBy.refl _ _⟩
  · simp only [Value.slice.injEq, true_and] at hv
    obtain ⟨rfl, rfl⟩ := hv
    refine (AnyM.slices_Sort_string sortS_lays g 0 c xs w (enc_holds hh (by simpa using h4)) (blk_lt hh) hl).mono ?_
    rintro r w' ⟨rfl, n, os, rfl⟩
    exact ⟨rfl, enc_owns (by simp) hg hh h1 h2 h3, enc_grown _⟩
end Go.Proofs.YtglhedahannjiaaGreatDoor.Dw

/- slices.Clone at bytes and at failures, by the shelf. -/
namespace Go.Proofs.YtglhedahannjiaaGreatDoor.Dw
open Go.RowKit Go.ChangeMaps Go.Proofs.YtglhedahannjiaaGreatDoor.Mp Go.Proofs.YtglhedahannjiaaGreatDoor.Dm Go.Proofs.YtglhedahannjiaaGreatDoor.Da Go.Shelf
set_option linter.unusedVariables false
set_option linter.unusedSimpArgs false
set_option linter.unusedSectionVars false
theorem byteInfo : (Tryz.prog.info? 5).map (fun i => (i.zero, i.size, i.bytes)) = some (some (.int .u8 0), 1, 1) := by kernel_rfl
theorem failInfo : (Tryz.prog.info? 75).map (fun i => (i.zero, i.size, i.bytes)) = some (some (.agg #[.int .i64 0, .int .i64 0]), 2, 16) := by kernel_rfl
theorem sizeU8 (w : World) : (Go.sizeOf 5).run Tryz.prog w = .ok 1 w := by kernel_rfl
theorem mem_oneCell {xs : List Int} : ∀ u ∈ u8s xs, u.oneCell' = true := by
  intro u hu
  obtain ⟨x, _, rfl⟩ := List.mem_map.1 hu
  rfl
/-- A clone of bytes: new memory (nil of nil). -/
theorem cloneB_calls (v : Value) (xs : List Int) (w : World) (hv : (v = .slice none 0 0 ∧ xs = []) ∨ ∃ b off c, v = .slice (some ⟨b, off, none⟩) xs.length c ∧ ∀ j u, (u8s xs)[j]? = some u → w.cell? ⟨b, off + j, none⟩ = some u) (hn : xs.length ≤ 140737488355328) :
    Calls Tryz.prog 69 #[v] w fun e w' => ∃ v', e = .returned v' ∧ w'.ownsRow w.heap.size 5 1 v' xs.length (u8s xs) ∧ Below w.heap.size w w' ∧ (v' = .slice none 0 0 ↔ v = .slice none 0 0) := by
  rcases hv with ⟨rfl, rfl⟩ | ⟨b, off, c, rfl, hc⟩
  · refine (AnyE.slices_Clone_nil cloneB_lays 0 0 w).mono ?_
    rintro e w' ⟨rfl, rfl⟩
    exact ⟨_, rfl, ⟨by simp [u8s], .inl ⟨rfl, rfl⟩⟩, Below.refl _ _, by simp⟩
  · obtain ⟨i0, hi0, hz0, hz1, hz2⟩ := info_parts byteInfo
    have hmx : maxLen = 9223372036854775807 := by decide
    refine (AnyE.slices_Clone cloneB_lays i0 _ 1 1 hi0 hz0 hz1 hz2 rfl (by omega) sizeU8 b off xs.length c (u8s xs) w (by simp [u8s]) (by omega) (by omega) hc mem_oneCell).mono ?_
    rintro e w' ⟨v', rfl, h1, h2, h3⟩
    exact ⟨v', rfl, h1, h3, by simp [h2]⟩
end Go.Proofs.YtglhedahannjiaaGreatDoor.Dw

/- What one statement of the program does to a disk in memory. -/
namespace Go.Proofs.YtglhedahannjiaaGreatDoor.Da
open Go.RowKit Go.ChangeMaps Go.Proofs.YtglhedahannjiaaGreatDoor.Mp Go.Proofs.YtglhedahannjiaaGreatDoor.Dm
set_option linter.unusedVariables false
set_option linter.unusedSimpArgs false
set_option linter.unusedSectionVars false
theorem cell_drew {w : World} {a : Addr} {v : Value} (h : w.cell? a = some v) : w.drew.cell? a = some v := h
theorem frozen_drew {w : World} {a : Addr} (h : w.frozen? a = false) : w.drew.frozen? a = false := h
theorem grown_alloc {w w1 : World} {o : Obj} {row : Option Nat} (h : ((w.alloc o).drew).grownBy w1 row) : w.grownBy w1 row :=
  ⟨h.os, h.tape, h.output, by have := h.size; simp at this; omega, fun i hi hne => by
    have := h.block i (by simp; omega) hne
    rw [this]; exact Below.heap_alloc _ _ _ hi⟩
/-- What holds of every disk that the calls make. -/
structure WF (D : Disk) : Prop where
  nowN : (D.now.map (·.1)).Nodup
  sureN : (D.sure.map (·.1)).Nodup
  nowI : ∀ p, p ∈ D.now → p.2 < D.files.length
  sureI : ∀ p, p ∈ D.sure → p.2 < D.files.length
  chgI : ∀ c, c ∈ D.changes → ∀ p, c.put = some p → p.2 < D.files.length
  chgD : ∀ c, c ∈ D.changes → ∀ n, c.del = some n → n.size ≠ 0
theorem WF.tick {D : Disk} (h : WF D) : WF D.tick := ⟨h.nowN, h.sureN, h.nowI, h.sureI, h.chgI, h.chgD⟩
theorem WF.dark {D : Disk} (h : WF D) : WF D.dark := ⟨h.nowN, h.sureN, h.nowI, h.sureI, h.chgI, h.chgD⟩
/-- The world behind newFile. -/
def wNew (w : World) (b : Nat) (born : Nat) : World :=
  (((((w.setCell ⟨b, 3, none⟩ (.int .i64 (born + 1))).alloc (.map #[] 0)).alloc (.map #[] 0)).alloc (.map #[] 0)).alloc
    (.cells #[.int .i64 (born + 1), .slice none 0 0, .map (some w.heap.size), .slice none 0 0, .map (some (w.heap.size + 1)), .map (some (w.heap.size + 1 + 1))] 104))
theorem NamesAt.congr {w : World} {m : Nat} {l : List (Name × Nat)} {A A' : Adr} (h : NamesAt w m l A) (hA : ∀ p, p ∈ l → fptr A' p.2 = fptr A p.2) : NamesAt w m l A' := by
  obtain ⟨l', hp, hm⟩ := h
  refine ⟨l', hp, ?_⟩
  have : (l'.map fun p => (p.1, fptr A' p.2)) = l'.map fun p => (p.1, fptr A p.2) := List.map_congr_left fun p hp' => by rw [hA p (hp.mem_iff.1 hp')]
  rw [this]; exact hm
theorem chg_congr {A A' : Adr} {l : List Chg} (hA : ∀ c, c ∈ l → ∀ p, c.put = some p → fptr A' p.2 = fptr A p.2) : l.flatMap (chgCells A') = l.flatMap (chgCells A) := by
  induction l with
  | nil => rfl
  | cons c l ih =>
    simp only [List.flatMap_cons]
    rw [ih (fun c' hc' => hA c' (List.mem_cons_of_mem _ hc'))]
    congr 1
    unfold chgCells
    cases hp : c.put with
    | none => rfl
    | some p => simp only [Option.map_some, Option.getD_some]; rw [hA c List.mem_cons_self p hp]
theorem RowAt.none {w : World} {lab : Nat → Option Lb} {p : Lb} {e : TypeId} {size : Nat} : RowAt w lab p e size (.slice none 0 0) 0 [] :=
  ⟨⟨by simp, .inl ⟨rfl, rfl⟩⟩, fun g hg => by simp [Value.ownBlock] at hg⟩
theorem SetAt.none {w : World} {m : Nat} (h : MapAt (Value.int .i64) w m ([] : List (Int × Value))) : SetAt w m (fun _ => false) := ⟨[], by simpa using h, by simp, by simp⟩
def Adr.withFile (A : Adr) (n : Nat) (f : FAdr) : Adr := { A with fa := fun i => if i = n then f else A.fa i }
def newFAdr (s : Nat) : FAdr := ⟨s + 3, .slice none 0 0, s, .slice none 0 0, s + 1, s + 2⟩
def newLab (lab : Nat → Option Lb) (n s : Nat) : Nat → Option Lb := fun k =>
  if k = s + 3 then some (.file n) else if k = s then some (.sb n) else if k = s + 1 then some (.ab n) else if k = s + 2 then some (.wb n) else lab k
theorem DiskAt.newFile {B : Nat} {w : World} {b : Nat} {A : Adr} {lab : Nat → Option Lb} {D : Disk} (h : DiskAt B w b A lab D) (hw : WF D) :
    DiskAt B (wNew w b D.files.length) b (A.withFile D.files.length (newFAdr w.heap.size)) (newLab lab D.files.length w.heap.size) { D with files := D.files ++ [FileS.new] } ∧
      Frm (Ft lab) w (wNew w b D.files.length) ∧ (∀ k, k < w.heap.size → Ft (newLab lab D.files.length w.heap.size) k → Ft lab k) := by
  have hbl := blk_lt h.blk
  have hF : Ft lab b := by unfold Ft; rw [h.lb]; rfl
  have hold : ∀ k, k < w.heap.size → newLab lab D.files.length w.heap.size k = lab k := by
    intro k hk
    unfold newLab
    rw [if_neg (by omega), if_neg (by omega), if_neg (by omega), if_neg (by omega)]
  have hlab : ∀ k p, lab k = some p → newLab lab D.files.length w.heap.size k = some p := fun k p hl => by rw [hold k (h.base k p hl).2]; exact hl
  have hsz : (w.setCell ⟨b, 3, none⟩ (.int .i64 (D.files.length + 1))).heap.size = w.heap.size := by simp
  have hsame : ∀ k, k < w.heap.size → k ≠ b → (wNew w b D.files.length).heap[k]? = w.heap[k]? := by
    intro k hk hne
    unfold wNew
    rw [blk_alloc_lt (by simp; omega), blk_alloc_lt (by simp; omega), blk_alloc_lt (by simp; omega), blk_alloc_lt (by simp; omega), blk_set_ne hne]
  have hfa : ∀ i, i < D.files.length → (A.withFile D.files.length (newFAdr w.heap.size)).fa i = A.fa i := by
    intro i hi; unfold Adr.withFile; simp only []; rw [if_neg (by omega)]
  have hfp : ∀ i, i < D.files.length → fptr (A.withFile D.files.length (newFAdr w.heap.size)) i = fptr A i := by
    intro i hi; unfold fptr; rw [hfa i hi]
  have hmain : ∀ k p, lab k = some p → p ≠ .main → (wNew w b D.files.length).heap[k]? = w.heap[k]? := fun k p hl hp => hsame k (h.base k p hl).2 (ne_of_lab hl h.lb hp)
  refine ⟨⟨?_, hlab _ _ h.lb, ?_, hlab _ _ h.lnm, ?_, hlab _ _ h.lsm, ?_, ?_, ?_, ?_⟩, ?_, ?_⟩
  · unfold wNew
    rw [blk_alloc_lt (by simp; omega), blk_alloc_lt (by simp; omega), blk_alloc_lt (by simp; omega), blk_alloc_lt (by simp; omega), blk_set h.blk]
    simp [mainCells, Adr.withFile]
  · exact (h.names.same (hmain _ _ h.lnm (by simp))).congr (fun p hp => hfp _ (hw.nowI p hp))
  · exact (h.sure.same (hmain _ _ h.lsm (by simp))).congr (fun p hp => hfp _ (hw.sureI p hp))
  · have := (h.waiting.same (w' := wNew w b D.files.length) (fun k hl => hmain k _ hl (by simp))).relab (lab' := newLab lab D.files.length w.heap.size) (fun k hl => hlab k _ hl)
    rw [← chg_congr (A' := A.withFile D.files.length (newFAdr w.heap.size)) (fun c hc p hp => hfp _ (hw.chgI c hc p hp))] at this
    exact this
  · exact (h.fails.same (w' := wNew w b D.files.length) (fun k hl => hmain k _ hl (by simp))).relab (fun k hl => hlab k _ hl)
  · intro i f hf
    rcases Nat.lt_or_ge i D.files.length with hi | hi
    · simp only [] at hf
      rw [List.getElem?_append_left hi] at hf
      have h1 := (h.files i f hf).same (w' := wNew w b D.files.length) (fun k p hl hp => hmain k p hl (by rcases hp with rfl | rfl | rfl | rfl | rfl | rfl <;> simp))
      have h2 := h1.relab (lab' := newLab lab D.files.length w.heap.size) (fun k p hl _ => hlab k p hl)
      rw [hfa i hi]; exact h2
    · simp only [] at hf
      have hi2 := (List.getElem?_eq_some_iff.1 hf).1
      obtain rfl : i = D.files.length := by simp at hi2; omega
      rw [List.getElem?_append_right (Nat.le_refl _)] at hf
      simp at hf
      subst hf
      have hfa' : (A.withFile D.files.length (newFAdr w.heap.size)).fa D.files.length = newFAdr w.heap.size := by unfold Adr.withFile; simp
      rw [hfa']
      have e0 : (wNew w b D.files.length).heap[w.heap.size]? = some (.map #[] 0) := by
        unfold wNew
        rw [blk_alloc_lt (by simp only [World.size_alloc, World.size_setCell]; omega), blk_alloc_lt (by simp only [World.size_alloc, World.size_setCell]; omega), blk_alloc_lt (by simp only [World.size_alloc, World.size_setCell]; omega)]
        have := blk_alloc (w := w.setCell ⟨b, 3, none⟩ (.int .i64 (D.files.length + 1))) (o := .map #[] 0)
        rw [hsz] at this; exact this
      have e1 : (wNew w b D.files.length).heap[w.heap.size + 1]? = some (.map #[] 0) := by
        unfold wNew
        rw [blk_alloc_lt (by simp only [World.size_alloc, World.size_setCell]; omega), blk_alloc_lt (by simp only [World.size_alloc, World.size_setCell]; omega)]
        have := blk_alloc (w := (w.setCell ⟨b, 3, none⟩ (.int .i64 (D.files.length + 1))).alloc (.map #[] 0)) (o := .map #[] 0)
        simpa using this
      have e2 : (wNew w b D.files.length).heap[w.heap.size + 2]? = some (.map #[] 0) := by
        unfold wNew
        rw [blk_alloc_lt (by simp only [World.size_alloc, World.size_setCell]; omega)]
        have := blk_alloc (w := ((w.setCell ⟨b, 3, none⟩ (.int .i64 (D.files.length + 1))).alloc (.map #[] 0)).alloc (.map #[] 0)) (o := .map #[] 0)
        simpa using this
      have e3 : (wNew w b D.files.length).heap[w.heap.size + 3]? = some (.cells #[.int .i64 (D.files.length + 1), .slice none 0 0, .map (some w.heap.size), .slice none 0 0, .map (some (w.heap.size + 1)), .map (some (w.heap.size + 1 + 1))] 104 (0, 0)) := by
        have := blk_alloc (w := (((w.setCell ⟨b, 3, none⟩ (.int .i64 (D.files.length + 1))).alloc (.map #[] 0)).alloc (.map #[] 0)).alloc (.map #[] 0)) (o := .cells #[.int .i64 (D.files.length + 1), .slice none 0 0, .map (some w.heap.size), .slice none 0 0, .map (some (w.heap.size + 1)), .map (some (w.heap.size + 1 + 1))] 104)
        simpa [wNew] using this
      have me : ∀ {w' : World} {m : Nat}, w'.heap[m]? = some (.map #[] 0) → MapAt (Value.int .i64) w' m ([] : List (Int × Value)) := fun hm => ⟨#[], 0, hm, ⟨by simp, by simp⟩, by simp⟩
      exact ⟨by rw [show (newFAdr w.heap.size).fb = w.heap.size + 3 from rfl, e3]; rfl, by simp [newLab, newFAdr], RowAt.none, RowAt.none, SetAt.none (me e0), by simp [newLab, newFAdr], SetAt.none (me e1), by simp [newLab, newFAdr], SetAt.none (me e2), by simp [newLab, newFAdr]⟩
  · intro k p hl
    have hs : (wNew w b D.files.length).heap.size = w.heap.size + 4 := by simp [wNew]
    rw [hs]
    have hB : B ≤ w.heap.size := Nat.le_of_lt (Nat.lt_of_le_of_lt (h.base b _ h.lb).1 hbl)
    rcases Nat.lt_or_ge k w.heap.size with hk | hk
    · rw [hold k hk] at hl
      exact ⟨(h.base k p hl).1, by omega⟩
    · refine ⟨by omega, ?_⟩
      unfold newLab at hl
      rcases Nat.lt_or_ge k (w.heap.size + 4) with h4 | h4
      · exact h4
      · rw [if_neg (by omega), if_neg (by omega), if_neg (by omega), if_neg (by omega)] at hl
        have := (h.base k p hl).2
        omega
  · unfold wNew
    exact ((((((Frm.refl _ _).setCell _ _ (fun _ => hF)).alloc _).alloc _).alloc _).alloc _)
  · intro k hk hl
    unfold Ft at hl ⊢
    rw [hold k hk] at hl; exact hl
theorem find_mem {l : List (Name × Nat)} (hl : (l.map (·.1)).Nodup) (n : Name) (i : Nat) : find l n = some i ↔ (n, i) ∈ l := by
  induction l with
  | nil => simp [find]
  | cons p l ih =>
    simp only [List.map_cons, List.nodup_cons] at hl
    have ih := ih hl.2
    simp only [find, List.find?_cons] at ih ⊢
    by_cases h : p.1 = n
    · simp only [h, decide_true, Option.map_some, Option.some.injEq, List.mem_cons]
      constructor
      · rintro rfl; left; rw [← h]
      · rintro (h2 | h2)
        · rw [← h2]
        · exact absurd (List.mem_map_of_mem (f := (·.1)) h2) (by rw [h] at hl; exact hl.1)
    · simp only [h, decide_false, ih, List.mem_cons]
      constructor
      · exact .inr
      · rintro (h2 | h2)
        · exact absurd (by rw [← h2]) h
        · exact h2
theorem setL_cons {α : Type} [DecidableEq α] (p : α × Value) (l : List (α × Value)) (x : α) (v : Value) : setL (p :: l) x v = if p.1 = x then (p.1, v) :: l else p :: setL l x v := by
  unfold setL
  simp only [List.findIdx?_cons]
  by_cases h : p.1 = x
  · simp [h]
  · simp only [h, decide_false, if_false]
    cases l.findIdx? fun p => decide (p.1 = x) <;> simp
theorem delL_cons {α : Type} [DecidableEq α] (p : α × Value) (l : List (α × Value)) (x : α) : delL (p :: l) x = if p.1 = x then l else p :: delL l x := by
  unfold delL
  simp only [List.findIdx?_cons]
  by_cases h : p.1 = x
  · simp [h]
  · simp only [h, decide_false, if_false]
    cases l.findIdx? fun p => decide (p.1 = x) <;> simp
theorem erase_self {l : List (Name × Nat)} {n : Name} (h : n ∉ l.map (·.1)) : erase l n = l := by
  unfold erase
  refine List.filter_eq_self.2 fun p hp => ?_
  have : p.1 ≠ n := fun e => h (by rw [← e]; exact List.mem_map_of_mem hp)
  simpa using this
/-- Setting a name in the map in memory. -/
theorem setL_names {l' l : List (Name × Nat)} (hp : l'.Perm l) (hn : (l.map (·.1)).Nodup) (A : Adr) (n : Name) (i : Nat) :
    ∃ l2 : List (Name × Nat), l2.Perm (put l n i) ∧ setL (l'.map fun p => (p.1, fptr A p.2)) n (fptr A i) = l2.map fun p => (p.1, fptr A p.2) := by
  have hn' : (l'.map (·.1)).Nodup := (hp.map (·.1)).nodup_iff.2 hn
  have key : ∀ l' : List (Name × Nat), (l'.map (·.1)).Nodup → ∃ l2 : List (Name × Nat), l2.Perm (put l' n i) ∧ setL (l'.map fun p => (p.1, fptr A p.2)) n (fptr A i) = l2.map fun p => (p.1, fptr A p.2) := by
    intro l' hl'
    induction l' with
    | nil => exact ⟨[(n, i)], by simp [put, erase], by simp [setL]⟩
    | cons p l' ih =>
      simp only [List.map_cons, List.nodup_cons] at hl'
      simp only [List.map_cons, setL_cons]
      by_cases h : p.1 = n
      · refine ⟨(n, i) :: l', ?_, by simp [h]⟩
        have : erase (p :: l') n = l' := by
          have := erase_self (l := l') (n := n) (by rw [← h]; exact hl'.1)
          unfold erase at this ⊢
          simp [h, this]
        unfold put
        rw [this]
        exact (List.perm_append_singleton _ _).symm
      · obtain ⟨l2, h1, h2⟩ := ih hl'.2
        refine ⟨p :: l2, ?_, by simp [h, h2]⟩
        have : put (p :: l') n i = p :: put l' n i := by unfold put erase; simp [h]
        rw [this]
        exact h1.cons _
  obtain ⟨l2, h1, h2⟩ := key l' hn'
  refine ⟨l2, h1.trans ?_, h2⟩
  unfold put erase
  exact (hp.filter _).append_right _
theorem delL_names {l' l : List (Name × Nat)} (hp : l'.Perm l) (hn : (l.map (·.1)).Nodup) (A : Adr) (n : Name) :
    ∃ l2 : List (Name × Nat), l2.Perm (erase l n) ∧ delL (l'.map fun p => (p.1, fptr A p.2)) n = l2.map fun p => (p.1, fptr A p.2) := by
  have hn' : (l'.map (·.1)).Nodup := (hp.map (·.1)).nodup_iff.2 hn
  have key : ∀ l' : List (Name × Nat), (l'.map (·.1)).Nodup → delL (l'.map fun p => (p.1, fptr A p.2)) n = (erase l' n).map fun p => (p.1, fptr A p.2) := by
    intro l' hl'
    induction l' with
    | nil => simp [delL, erase]
    | cons p l' ih =>
      simp only [List.map_cons, List.nodup_cons] at hl'
      simp only [List.map_cons, delL_cons]
      by_cases h : p.1 = n
      · have : erase (p :: l') n = l' := by
          have := erase_self (l := l') (n := n) (by rw [← h]; exact hl'.1)
          unfold erase at this ⊢
          simp [h, this]
        simp [h, this]
      · have : erase (p :: l') n = p :: erase l' n := by unfold erase; simp [h]
        simp [h, this, ih hl'.2]
  refine ⟨erase l' n, ?_, key l' hn'⟩
  unfold erase
  exact hp.filter _
section
variable {B : Nat} {w w' : World} {b : Nat} {A : Adr} {lab : Nat → Option Lb} {D : Disk}
/-- The map of the names as seen has turned. -/
theorem DiskAt.setNow (h : DiskAt B w b A lab D) {l : List (Name × Nat)} (hm : NamesAt w' A.nm l A) (hg : w.grownBy w' (some A.nm)) :
    DiskAt B w' b A lab { D with now := l } ∧ Frm (Ft lab) w w' := by
  have hk : ∀ k p, lab k = some p → p ≠ .names → w'.heap[k]? = w.heap[k]? := fun k p hl hp => hg.block k (h.base k p hl).2 (by
    intro e; exact ne_of_lab hl h.lnm hp (Option.some.inj e))
  refine ⟨⟨?_, h.lb, hm, h.lnm, h.sure.same (hk _ _ h.lsm (by simp)), h.lsm, h.waiting.same (fun k hl => hk k _ hl (by simp)), h.fails.same (fun k hl => hk k _ hl (by simp)), ?_, ?_⟩, ?_⟩
  · rw [hk _ _ h.lb (by simp)]; exact h.blk
  · intro i f hf
    exact (h.files i f hf).same (fun k p hl hp => hk k p hl (by rcases hp with rfl | rfl | rfl | rfl | rfl | rfl <;> simp))
  · exact fun k p hl => ⟨(h.base k p hl).1, Nat.lt_of_lt_of_le (h.base k p hl).2 hg.size⟩
  · exact (Frm.of_grown hg).mono (fun k _ e => by unfold Ft; rw [Option.some.inj e, h.lnm]; rfl)
/-- One label moves to another block, or stays: behind an append. -/
def moveLab (lab : Nat → Option Lb) (p : Lb) (g : Option Nat) : Nat → Option Lb := fun k => if some k = g then some p else if lab k = some p then none else lab k
theorem moveLab_other {p q : Lb} {g : Option Nat} {k : Nat} (hq : q ≠ p) (hl : lab k = some q) (hg : ∀ i, g = some i → lab i = some p ∨ lab i = none) : moveLab lab p g k = some q := by
  unfold moveLab
  rw [if_neg, if_neg, hl]
  · rw [hl]; exact fun e => hq (Option.some.inj e)
  · intro e
    rcases hg k e.symm with h1 | h1 <;> rw [hl] at h1
    · exact hq (Option.some.inj h1)
    · cases h1
/-- The row of the changes that wait has been appended to, and stored back. -/
theorem DiskAt.setWaiting (h : DiskAt B w b A lab D) {w1 : World} {v' : Value} {cs : List Chg} (hrow : w1.ownsRow 0 96 3 v' cs.length (cs.flatMap (chgCells A))) (hg : w.grownBy w1 A.wv.ownBlock)
    (hv : v'.ownBlock = A.wv.ownBlock ∨ ∀ g, v'.ownBlock = some g → w.heap.size ≤ g ∧ g < w1.heap.size) :
    DiskAt B (w1.setCell ⟨b, 2, none⟩ v') b { A with wv := v' } (moveLab lab .waiting v'.ownBlock) { D with changes := cs } ∧ Frm (Ft lab) w (w1.setCell ⟨b, 2, none⟩ v') ∧
      (∀ k, k < w.heap.size → Ft (moveLab lab .waiting v'.ownBlock) k → Ft lab k) := by
  have hlow : ∀ i, v'.ownBlock = some i → lab i = some .waiting ∨ lab i = none := by
    intro i hi
    rcases hv with hv | hv
    · left
      exact h.waiting.lab i (by rw [← hv]; exact hi)
    · right
      rcases hl : lab i with _ | p
      · rfl
      · have := (h.base i p hl).2
        have := (hv i hi).1
        omega
  have hml : ∀ k q, lab k = some q → q ≠ .waiting → moveLab lab .waiting v'.ownBlock k = some q := fun k q hl hq => moveLab_other hq hl hlow
  have hk1 : ∀ k q, lab k = some q → q ≠ .waiting → w1.heap[k]? = w.heap[k]? := fun k q hl hq => hg.block k (h.base k q hl).2 (by
    intro e
    exact hq (by have := h.waiting.lab k e.symm; rw [hl] at this; exact Option.some.inj this))
  have hk : ∀ k q, lab k = some q → q ≠ .waiting → q ≠ .main → (w1.setCell ⟨b, 2, none⟩ v').heap[k]? = w.heap[k]? := fun k q hl hq hm => by
    rw [blk_set_ne (ne_of_lab hl h.lb hm)]; exact hk1 k q hl hq
  have hgb : ∀ i, v'.ownBlock = some i → i ≠ b := by
    intro i hi e
    rcases hlow i hi with h1 | h1 <;> rw [e, h.lb] at h1 <;> cases h1
  have hF : Ft lab b := by unfold Ft; rw [h.lb]; rfl
  have hb1 : w1.heap[b]? = some (.cells (mainCells A D) 88 (0, 0)) := by rw [hk1 _ _ h.lb (by simp)]; exact h.blk
  refine ⟨⟨?_, hml _ _ h.lb (by simp), h.names.same (hk _ _ h.lnm (by simp) (by simp)), hml _ _ h.lnm (by simp), h.sure.same (hk _ _ h.lsm (by simp) (by simp)), hml _ _ h.lsm (by simp), ?_, ?_, ?_, ?_⟩, ?_, ?_⟩
  · rw [blk_set hb1]; simp [mainCells]
  · refine ⟨⟨hrow.1, ?_⟩, fun g hg' => by unfold moveLab; rw [if_pos hg'.symm]⟩
    rcases hrow.2 with h2 | ⟨g, cap, cur, hv', hg', hh, r⟩
    · exact .inl h2
    · exact .inr ⟨g, cap, cur, hv', hg', by rw [blk_set_ne (hgb g (by rw [hv']; rfl))]; exact hh, r⟩
  · exact (h.fails.same (fun k hl => hk k _ hl (by simp) (by simp))).relab (fun k hl => hml k _ hl (by simp))
  · intro i f hf
    exact ((h.files i f hf).same (fun k p hl hp => hk k p hl (by rcases hp with rfl | rfl | rfl | rfl | rfl | rfl <;> simp) (by rcases hp with rfl | rfl | rfl | rfl | rfl | rfl <;> simp))).relab
      (fun k p hl hp => hml k p hl (by rcases hp with rfl | rfl | rfl | rfl | rfl | rfl <;> simp))
  · intro k p hl
    have hs : (w1.setCell ⟨b, 2, none⟩ v').heap.size = w1.heap.size := by simp
    rw [hs]
    have hB : B ≤ w.heap.size := Nat.le_of_lt (Nat.lt_of_le_of_lt (h.base b _ h.lb).1 (h.base b _ h.lb).2)
    have hsz := hg.size
    unfold moveLab at hl
    by_cases e : some k = v'.ownBlock
    · rcases hv with hv | hv
      · have := h.base k _ (h.waiting.lab k (by rw [← hv]; exact e.symm))
        omega
      · have := hv k e.symm
        omega
    · rw [if_neg e] at hl
      by_cases e2 : lab k = some .waiting
      · rw [if_pos e2] at hl; cases hl
      · rw [if_neg e2] at hl
        have := h.base k p hl
        omega
  · refine Frm.setCell ?_ _ _ (fun _ => hF)
    refine (Frm.of_grown hg).mono (fun k _ e => ?_)
    unfold Ft
    rw [h.waiting.lab k e.symm]; rfl
  · intro k hk' hl
    unfold Ft moveLab at hl
    by_cases e : some k = v'.ownBlock
    · rcases hv with hv | hv
      · unfold Ft
        rw [h.waiting.lab k (by rw [← hv]; exact e.symm)]; rfl
      · have := (hv k e.symm).1
        omega
    · rw [if_neg e] at hl
      by_cases e2 : lab k = some .waiting
      · unfold Ft; rw [e2]; rfl
      · rw [if_neg e2] at hl; exact hl
end
end Go.Proofs.YtglhedahannjiaaGreatDoor.Da

/- Walks: the disk's small functions. -/
namespace Go.Proofs.YtglhedahannjiaaGreatDoor.Dw
open Go.RowKit Go.ChangeMaps Go.Proofs.YtglhedahannjiaaGreatDoor.Mp Go.Proofs.YtglhedahannjiaaGreatDoor.Dm Go.Proofs.YtglhedahannjiaaGreatDoor.Da
set_option linter.unusedVariables false
set_option linter.unusedSimpArgs false
set_option linter.unusedSectionVars false
theorem main_cell {w : World} {b : Nat} {A : Adr} {D : Disk} {i : Nat} {v : Value} (h : w.heap[b]? = some (.cells (mainCells A D) 88 (0, 0))) (hv : (mainCells A D)[i]? = some v) : w.cell? ⟨b, i, none⟩ = some v := cell_of h hv
theorem kS : KeyK Tryz.prog 9 Value.string := keyK_str Tryz.underlying9
theorem kI : KeyK Tryz.prog 3 (Value.int .i64) := keyK_int Tryz.underlying3
theorem zP (w : World) : (zeroValue 93).run Tryz.prog w = .ok (.pointer none) w := by kernel_rfl
set_option maxRecDepth 100000 in
theorem goodName_calls (n : Name) (w : World) (hn : n.size ≤ 9223372036854775807) :
    Calls Tryz.prog 51 #[.string n] w fun e w' => e = .returned (.bool (good n)) ∧ w' = w := by
  by_cases h1 : (n.size : Int) < 1
  · have hg : good n = false := by simp [good]; omega
    rw [hg]
    go_enter Tryz.func51, Tryz.ntmps51
    go_wp2
    go_ret
    exact ⟨rfl, rfl⟩
  · have hg : good n = decide ((n.size : Int) ≤ 64) := by
      rw [Bool.eq_iff_iff]; simp [good]; omega
    rw [hg]
    go_enter Tryz.func51, Tryz.ntmps51
    go_wp2
    go_ret
    exact ⟨rfl, rfl⟩
theorem look_names {l l' : List (Name × Nat)} (hp : l'.Perm l) (hn : (l.map (·.1)).Nodup) (A : Adr) (n : Name) :
    mlook (l'.map fun p => (p.1, fptr A p.2)) n = (find l n).map (fptr A) := by
  have hn' : (l'.map (·.1)).Nodup := (hp.map (·.1)).nodup_iff.2 hn
  have key : ∀ l' : List (Name × Nat), mlook (l'.map fun p => (p.1, fptr A p.2)) n = (find l' n).map (fptr A) := by
    intro l'
    induction l' with
    | nil => rfl
    | cons p l' ih =>
      simp only [mlook, find, List.map_cons, List.find?_cons] at ih ⊢
      by_cases h : p.1 = n
      · simp [h]
      · simp only [h, decide_false]; exact ih
  rw [key]
  congr 1
  have mem : ∀ (l : List (Name × Nat)), (l.map (·.1)).Nodup → ∀ i, find l n = some i ↔ (n, i) ∈ l := by
    intro l hl i
    induction l with
    | nil => simp [find]
    | cons p l ih =>
      simp only [List.map_cons, List.nodup_cons] at hl
      have ih := ih hl.2
      simp only [find, List.find?_cons] at ih ⊢
      by_cases h : p.1 = n
      · simp only [h, decide_true, Option.map_some, Option.some.injEq, List.mem_cons]
        constructor
        · rintro rfl; left; rw [← h]
        · rintro (h2 | h2)
          · rw [← h2]
          · exact absurd (List.mem_map_of_mem (f := (·.1)) h2) (by rw [h] at hl; exact hl.1)
      · simp only [h, decide_false, ih, List.mem_cons]
        constructor
        · exact .inr
        · rintro (h2 | h2)
          · exact absurd (by rw [← h2]) h
          · exact h2
  cases hf : find l' n with
  | none =>
    cases hf2 : find l n with
    | none => rfl
    | some i => have := (mem l' hn' i).2 ((hp.mem_iff).2 ((mem l hn i).1 hf2)); rw [hf] at this; cases this
  | some i => exact ((mem l hn i).2 ((hp.mem_iff).1 ((mem l' hn' i).1 hf))).symm
set_option maxRecDepth 100000 in
theorem gone_calls {B : Nat} {w : World} {b : Nat} {A : Adr} {lab : Nat → Option Lb} {D : Disk} {eb : Nat → Addr} {L : List Err} (h : DiskAt B w b A lab D) (he : ErrsAt B w eb L) (hn : (D.now.map (·.1)).Nodup) (n : Name) :
    Calls Tryz.prog 53 #[dptr b, .string n] w fun e w' => e = .returned (errV eb (D.gone n)) ∧ w' = w := by
  have c0 : w.cell? ⟨b, 0, none⟩ = some (.map (some A.nm)) := main_cell h.blk rfl
  have cg := he.gone
  obtain ⟨l', hp, hm⟩ := h.names
  have hl := look_names hp hn A n
  unfold dptr
  cases hf : find D.now n with
  | none =>
    rw [hf] at hl
    have e1 : (mlook (l'.map fun p => (p.1, fptr A p.2)) n).getD (.pointer none) = .pointer none := by rw [hl]; rfl
    have hg : D.gone n = eGone := by simp [Disk.gone, hf]
    rw [hg]
    clear hl hf hp hg
    have E1 := Lib.hid e1
    clear e1
    go_enter Tryz.func53, Tryz.ntmps53
    go_wp2_with (first | (at_lookup; refine wpl_lookup _ rfl _ _ _ rfl kS Tryz.underlying85 (zP _) n rfl rfl hm ?_; rw [if_neg (by simp), E1.out]))
    go_ret
    exact ⟨rfl, rfl⟩
  | some i =>
    rw [hf] at hl
    have e1 : (mlook (l'.map fun p => (p.1, fptr A p.2)) n).getD (.pointer none) = fptr A i := by rw [hl]; rfl
    have hg : D.gone n = 0 := by simp [Disk.gone, hf]
    rw [hg]
    clear hl hf hp hg
    have E1 := Lib.hid e1
    clear e1
    go_enter Tryz.func53, Tryz.ntmps53
    go_wp2_with (first | (at_lookup; refine wpl_lookup _ rfl _ _ _ rfl kS Tryz.underlying85 (zP _) n rfl rfl hm ?_; rw [if_neg (by simp), E1.out]; unfold fptr))
    go_ret
    exact ⟨rfl, rfl⟩
/-- What 'armed' answers. -/
def whatV (eb : Nat → Addr) : What → Value
  | .cut => .tuple #[.int .i64 0, errV eb eDown]
  | .fails n => .tuple #[.int .i64 n, errV eb eIo]
  | .goes => .tuple #[.int .i64 0, .nilIface]
theorem failRow (l : List (Int × Int)) (k : Nat) (hk : k < l.length) : (l.flatMap failCells)[k * 2]? = some (.int .i64 (l[k]).1) ∧ (l.flatMap failCells)[k * 2 + 1]? = some (.int .i64 (l[k]).2) := by
  induction l generalizing k with
  | nil => simp at hk
  | cons p l ih =>
    cases k with
    | zero => simp [failCells]
    | succ k =>
      have := ih k (by simpa using hk)
      simp only [List.flatMap_cons, failCells, List.cons_append, List.nil_append, List.getElem_cons_succ]
      rw [show (k + 1) * 2 = k * 2 + 1 + 1 by omega]
      simpa using this
set_option maxRecDepth 100000 in
theorem armed_calls {B : Nat} {w : World} {b : Nat} {A : Adr} {lab : Nat → Option Lb} {D : Disk} {eb : Nat → Addr} {L : List Err} (h : DiskAt B w b A lab D) (he : ErrsAt B w eb L) :
    Calls Tryz.prog 99 #[dptr b] w fun e w' => e = .returned (whatV eb D.armed) ∧ Frm (fun _ => False) w w' := by
  have c5 : w.cell? ⟨b, 5, none⟩ = some (.int .i64 D.since) := main_cell h.blk rfl
  have c6 : w.cell? ⟨b, 6, none⟩ = some A.fv := main_cell h.blk rfl
  have c7 : w.cell? ⟨b, 7, none⟩ = some (.int .i64 D.cut) := main_cell h.blk rfl
  have cd := he.down
  unfold dptr
  by_cases hcut : (D.since : Int) = D.cut
  · have ha : D.armed = .cut := by simp [Disk.armed, hcut]
    rw [ha]
    have hb : ((D.since : Int) == D.cut) = true := by simpa using hcut
    clear hcut ha
    go_enter Tryz.func99, Tryz.ntmps99
    go_wp2
    go_quiet (fail)
    go_wp2
    go_quiet (fail)
    go_wp2
    go_ret2
    exact ⟨rfl, (by repeat (first | (with_reducible assumption) | (with_reducible exact Frm.refl _ _) | (with_reducible apply Frm.drewN) | (with_reducible apply Frm.drew) | (with_reducible apply Frm.alloc) | (with_reducible refine Frm.setCell ?_ _ _ (fun h => absurd h (by first | (simp; done) | (simp; omega))))))⟩
  · have hb : ((D.since : Int) == D.cut) = false := by simpa using hcut
    have hlt := blk_lt h.blk
    rcases h.fails.cells with ⟨hv, hn⟩ | ⟨g, cap, hv, hn, hcap, hg, hglt, hcells⟩
    · have hnil : D.fails = [] := List.eq_nil_of_length_eq_zero hn
      have ha : D.armed = .goes := by simp [Disk.armed, hcut, hnil]
      rw [ha]
      rw [hv] at c6
      clear hcut ha hv hn hnil
      go_enter Tryz.func99, Tryz.ntmps99
      go_wp2
      go_quiet (fail)
      go_wp2
      refine wp_loop_rounds 1 ?_
      rw [rounds_succ]
      go_wp2
      go_ret2
      exact ⟨rfl, (by repeat (first | (with_reducible assumption) | (with_reducible exact Frm.refl _ _) | (with_reducible apply Frm.drewN) | (with_reducible apply Frm.drew) | (with_reducible apply Frm.alloc) | (with_reducible refine Frm.setCell ?_ _ _ (fun h => absurd h (by first | (simp; done) | (simp; omega))))))⟩
    · rw [hv] at c6
      have hmx : maxLen = 9223372036854775807 := by decide
      have hN : D.fails.length ≤ 9223372036854775807 := by omega
      clear hv hmx
      have HC := Lib.hid hcut
      clear hcut
      go_enter Tryz.func99, Tryz.ntmps99
      go_wp2
      go_quiet (fail)
      go_wp2
      go_loopw [21] (fun v wr => ∃ k : Nat, k ≤ D.fails.length ∧ v = .int .i64 k ∧ (∀ j, (hj : j < D.fails.length) → j < k → (D.fails[j]).1 ≠ (D.since : Int)) ∧ Frm (fun _ => False) w wr) (fun v _ => D.fails.length - (intOf v).toNat)
      case atStart => exact ⟨0, Nat.zero_le _, rfl, fun j _ hj => absurd hj (Nat.not_lt_zero _), (Frm.refl _ _).drewN _⟩
      case round =>
        obtain ⟨k, hk, rfl, hno, hfr⟩ := hrel
        have c5' : wr.cell? ⟨b, 5, none⟩ = some (.int .i64 D.since) := (hfr.cell hlt id).trans c5
        have ci : wr.cell? ⟨6, 0, none⟩ = some (.iface 228 (.pointer (some (eb 6)))) := (he.frm hfr (fun _ h => h.elim)).io
        by_cases hkl : k < D.fails.length
        · obtain ⟨r1, r2⟩ := failRow D.fails k hkl
          have k1 : wr.cell? ⟨g, k * 2, none⟩ = some (.int .i64 (D.fails[k]).1) := (hfr.cell hglt id).trans ((hcells _ (by omega)).trans r1)
          have k2 : wr.cell? ⟨g, k * 2 + 1, none⟩ = some (.int .i64 (D.fails[k]).2) := (hfr.cell hglt id).trans ((hcells _ (by omega)).trans r2)
          have HNo := Lib.hid hno
          clear hno r1 r2 c5 c6 c7 hcells
          have n1 := World.new_ne wr ⟨b, 5, none⟩ c5'
          have n2 := World.new_ne wr ⟨6, 0, none⟩ ci
          by_cases hAt : (D.fails[k]).1 = (D.since : Int)
          · have hAb : ((D.fails[k]).1 == (D.since : Int)) = true := by simpa using hAt
            have HAt := Lib.hid hAt
            clear hAt
            generalize hp1 : (D.fails[k]).1 = p1 at *
            generalize hp2 : (D.fails[k]).2 = p2 at *
            have HP := Lib.hid (And.intro hp1 hp2)
            clear hp1 hp2
            have q1 : (wr.alloc (.cells #[.int .i64 p1, .int .i64 p2] 75)).cell? ⟨b, 5, none⟩ = some (.int .i64 D.since) := cell_alloc c5'
            have q2 : (wr.alloc (.cells #[.int .i64 p1, .int .i64 p2] 75)).cell? ⟨6, 0, none⟩ = some (.iface 228 (.pointer (some (eb 6)))) := cell_alloc ci
            go_wp2
            go_quiet (fail)
            go_wp2
            go_quiet (fail)
            go_wp2
            go_ret2
            have ha : D.armed = .fails p2 := by
              have hf : D.fails.find? (fun p => decide (p.1 = (D.since : Int))) = some D.fails[k] := by
                rw [List.find?_eq_some_iff_getElem]
                refine ⟨by rw [HP.out.1]; simpa using HAt.out, k, hkl, rfl, fun j hj => ?_⟩
                have := HNo.out j (by omega) hj
                simpa using this
              simp only [Disk.armed, if_neg HC.out, hf, HP.out.2]
            rw [ha]
            exact ⟨rfl, (by repeat (first | (with_reducible assumption) | (with_reducible exact Frm.refl _ _) | (with_reducible apply Frm.drewN) | (with_reducible apply Frm.drew) | (with_reducible apply Frm.alloc) | (with_reducible refine Frm.setCell ?_ _ _ (fun h => absurd h (by first | (simp; done) | (simp; omega))))))⟩
          · have hAb : ((D.fails[k]).1 == (D.since : Int)) = false := by simpa using hAt
            have HNo' : Hid (∀ j, (hj : j < D.fails.length) → j < k + 1 → (D.fails[j]).1 ≠ (D.since : Int)) := by
              intro j hj hjk
              rcases Nat.lt_or_ge j k with h1 | h1
              · exact HNo.out j hj h1
              · obtain rfl : j = k := by omega
                exact hAt
            clear hAt HNo
            generalize hp1 : (D.fails[k]).1 = p1 at *
            generalize hp2 : (D.fails[k]).2 = p2 at *
            clear hp1 hp2
            have q1 : (wr.alloc (.cells #[.int .i64 p1, .int .i64 p2] 75)).cell? ⟨b, 5, none⟩ = some (.int .i64 D.since) := cell_alloc c5'
            go_wp2
            go_quiet (fail)
            go_wp2
            exact ⟨⟨k + 1, by omega, by go_num, HNo'.out, (by repeat (first | (with_reducible assumption) | (with_reducible exact Frm.refl _ _) | (with_reducible apply Frm.drewN) | (with_reducible apply Frm.drew) | (with_reducible apply Frm.alloc) | (with_reducible refine Frm.setCell ?_ _ _ (fun h => absurd h (by first | (simp; done) | (simp; omega))))))⟩, by simp [intOf]; omega⟩
        · obtain rfl : k = D.fails.length := by omega
          have ha : D.armed = .goes := by
            have hf : D.fails.find? (fun p => decide (p.1 = (D.since : Int))) = none := by
              rw [List.find?_eq_none]
              intro p hp
              obtain ⟨j, hj, rfl⟩ := List.getElem_of_mem hp
              simpa using hno j hj hj
            simp only [Disk.armed, if_neg HC.out, hf]
          have HA := Lib.hid ha
          clear hno ha c5 c6 c7
          go_wp2
          go_ret2
          rw [HA.out]
          exact ⟨rfl, (by repeat (first | (with_reducible assumption) | (with_reducible exact Frm.refl _ _) | (with_reducible apply Frm.drewN) | (with_reducible apply Frm.drew) | (with_reducible apply Frm.alloc) | (with_reducible refine Frm.setCell ?_ _ _ (fun h => absurd h (by first | (simp; done) | (simp; omega))))))⟩
end Go.Proofs.YtglhedahannjiaaGreatDoor.Dw

/- Maps in a loop: how many entries are still to come. -/
namespace Go.Proofs.YtglhedahannjiaaGreatDoor.Mp
open Go.RowKit Go.ChangeMaps
set_option linter.unusedVariables false
variable {α : Type} {enc : α → Value} {w : World} {m : Nat} {l : List (α × Value)}
/-- How many entries are still to come. -/
def leftIn (w : World) (it m : Nat) : Nat := match w.heap[m]?, w.heap[it]? with | some (.map es _), some (.mapIter _ _ seen _) => (es.toList.filter fun e => !seen.contains e.born).length | _, _ => 0
theorem IterAt.left {it : Nat} {todo : List (α × Value)} (h : IterAt enc w it m l todo) : leftIn w it m = todo.length := by
  obtain ⟨es, c, s, h1, h2, _, _, h5⟩ := h
  have := congrArg List.length h5
  simp only [List.length_map] at this
  unfold leftIn
  rw [h1, h2]
  exact this
end Go.Proofs.YtglhedahannjiaaGreatDoor.Mp

/- side.clone: a new side like it. -/
namespace Go.Proofs.YtglhedahannjiaaGreatDoor.Dw
open Go.RowKit Go.ChangeMaps Go.Proofs.YtglhedahannjiaaGreatDoor.Mp Go.Proofs.YtglhedahannjiaaGreatDoor.Dm Go.Proofs.YtglhedahannjiaaGreatDoor.Da
set_option linter.unusedVariables false
set_option linter.unusedSimpArgs false
set_option linter.unusedSectionVars false
/-- The entries of a set. -/
def ent (ks : List Int) : List (Int × Value) := ks.map fun k => (k, .int .i64 1)
theorem ent_perm {ks : List Int} {y : Int} {v : Value} {todo : List (Int × Value)} (h : (ent ks).Perm ((y, v) :: todo)) : v = .int .i64 1 ∧ ∃ tk, todo = ent tk ∧ ks.Perm (y :: tk) := by
  have hall : ∀ p, p ∈ (y, v) :: todo → p.2 = .int .i64 1 := fun p hp => by
    have := h.mem_iff.2 hp
    obtain ⟨k, _, rfl⟩ := List.mem_map.1 this
    rfl
  refine ⟨hall (y, v) List.mem_cons_self, todo.map (·.1), ?_, ?_⟩
  · unfold ent
    rw [List.map_map]
    have e : todo.map (fun p => (p.1, Value.int .i64 1)) = todo.map id := List.map_congr_left fun p hp => by
      have := hall p (List.mem_cons_of_mem _ hp)
      rw [← this]; rfl
    exact (e.trans (List.map_id _)).symm
  · have := h.map (·.1)
    simpa [ent, Function.comp_def] using this
theorem setL_ent {ks : List Int} {y : Int} (h : y ∉ ks) : setL (ent ks) y (.int .i64 1) = ent (ks ++ [y]) := by
  induction ks with
  | nil => rfl
  | cons k ks ih =>
    simp only [List.mem_cons, not_or] at h
    have := ih h.2
    unfold ent at this ⊢
    simp only [List.map_cons, List.cons_append]
    rw [setL_cons, this]
    simp [Ne.symm h.1]
/-- In clone's loop. -/
structure CloneInv (w wr : World) (v : Value) (m : Nat) (ks tk dk : List Int) : Prop where
  frm : Frm (fun _ => False) w wr
  s0 : wr.heap[w.heap.size]? = some (.cells #[v, .map (some m)] 102 (0, 0))
  s1 : wr.heap[w.heap.size + 1]? = some (.cells #[.slice none 0 0, .map none] 102 (0, 0))
  done : MapAt (Value.int .i64) wr (w.heap.size + 1 + 1) (ent dk)
  iter : IterAt (Value.int .i64) wr (w.heap.size + 1 + 1 + 1) m (ent ks) (ent tk)
  perm : (tk ++ dk).Perm ks
set_option maxHeartbeats 1000000 in
set_option maxRecDepth 100000 in
theorem clone_calls (v : Value) (xs : List Int) (m : Nat) (S : Nat → Bool) (w : World) (hv : (v = .slice none 0 0 ∧ xs = []) ∨ ∃ b off c, v = .slice (some ⟨b, off, none⟩) xs.length c ∧ ∀ j u, (u8s xs)[j]? = some u → w.cell? ⟨b, off + j, none⟩ = some u)
    (hS : SetAt w m S) (hn : xs.length ≤ 140737488355328) :
    Calls Tryz.prog 59 #[.agg #[v, .map (some m)]] w fun e w' => ∃ v' m', e = .returned (.agg #[v', .map (some m')]) ∧ w'.ownsRow w.heap.size 5 1 v' xs.length (u8s xs) ∧ SetAt w' m' S ∧ Below w.heap.size w w' ∧
      w.heap.size ≤ m' ∧ m' < w'.heap.size ∧ v'.ownBlock ≠ some m' := by
  have hmm := @run_makeMap Tryz.prog
  obtain ⟨ks, hks, hnd, hmem⟩ := hS
  change MapAt (Value.int .i64) w m (ent ks) at hks
  have HMem := Lib.hid hmem
  clear hmem
  have hmlt := hks.lt
  have key : ∃ p nn c, v = .slice p nn c ∧ ∀ W, Frm (fun _ => False) w W → Calls Tryz.prog 69 #[.slice p nn c] W fun e w' => ∃ v', e = .returned v' ∧ w'.ownsRow W.heap.size 5 1 v' xs.length (u8s xs) ∧ Below W.heap.size W w' := by
    rcases hv with ⟨rfl, rfl⟩ | ⟨b, off, c, rfl, hc⟩
    · refine ⟨none, 0, 0, rfl, fun W hW => (cloneB_calls (.slice none 0 0) [] W (.inl ⟨rfl, rfl⟩) (by simp)).mono ?_⟩
      rintro e w' ⟨v', rfl, h1, h2, _⟩
      exact ⟨v', rfl, h1, h2⟩
    · refine ⟨some ⟨b, off, none⟩, xs.length, c, rfl, fun W hW => (cloneB_calls _ xs W (.inr ⟨b, off, c, rfl, ?_⟩) hn).mono ?_⟩
      · intro j u hu
        rw [← hc j u hu]
        exact hW.cell (World.block_lt_of_cell? w _ (hc j u hu)) id
      · rintro e w' ⟨v', rfl, h1, h2, _⟩
        exact ⟨v', rfl, h1, h2⟩
  obtain ⟨p, nn, c, rfl, key⟩ := key
  have KEY := Lib.hid key
  clear key hv
  go_enter Tryz.func59, Tryz.ntmps59
  have F0 : Frm (fun _ => False) w (((w.alloc (.cells #[.slice p nn c, .map (some m)] 102)).alloc (.cells #[.slice none 0 0, .map none] 102)).alloc (.map #[] 0)) := ((((Frm.refl _ _).alloc _).alloc _).alloc _)
  have B0 : (((w.alloc (.cells #[.slice p nn c, .map (some m)] 102)).alloc (.cells #[.slice none 0 0, .map none] 102)).alloc (.map #[] 0)).heap[w.heap.size]? = some (.cells #[.slice p nn c, .map (some m)] 102 (0, 0)) := by
    rw [blk_alloc_lt (by simp only [World.size_alloc]; omega), blk_alloc_lt (by simp only [World.size_alloc]; omega)]; exact blk_alloc
  have B1 : (((w.alloc (.cells #[.slice p nn c, .map (some m)] 102)).alloc (.cells #[.slice none 0 0, .map none] 102)).alloc (.map #[] 0)).heap[w.heap.size + 1]? = some (.cells #[.slice none 0 0, .map none] 102 (0, 0)) := by
    rw [blk_alloc_lt (by simp only [World.size_alloc]; omega), show w.heap.size + 1 = (w.alloc (.cells #[.slice p nn c, .map (some m)] 102)).heap.size by simp only [World.size_alloc]]; exact blk_alloc
  have B2 : MapAt (Value.int .i64) (((w.alloc (.cells #[.slice p nn c, .map (some m)] 102)).alloc (.cells #[.slice none 0 0, .map none] 102)).alloc (.map #[] 0)) (w.heap.size + 1 + 1) (ent []) := by
    have := MapAt.made (enc := Value.int .i64) ((w.alloc (.cells #[.slice p nn c, .map (some m)] 102)).alloc (.cells #[.slice none 0 0, .map none] 102))
    simp only [World.size_alloc] at this
    exact this
  have S0 : (((w.alloc (.cells #[.slice p nn c, .map (some m)] 102)).alloc (.cells #[.slice none 0 0, .map none] 102)).alloc (.map #[] 0)).heap.size = w.heap.size + 1 + 1 + 1 := by simp only [World.size_alloc]
  have M0 : MapAt (Value.int .i64) (((w.alloc (.cells #[.slice p nn c, .map (some m)] 102)).alloc (.cells #[.slice none 0 0, .map none] 102)).alloc (.map #[] 0)) m (ent ks) := hks.of_block (F0.block m hmlt id)
  go_wp2_with (first | (at_range; generalize ((w.alloc (.cells #[.slice p nn c, .map (some m)] 102)).alloc (.cells #[.slice none 0 0, .map none] 102)).alloc (.map #[] 0) = W0 at *; refine wpl_range _ rfl _ rfl Tryz.underlying100 rfl M0 ?_; intro W1 hi1 hg1 hs1; rw [S0] at hi1 hs1 ⊢))
  have I1 : CloneInv w W1 (.slice p nn c) m ks ks [] := ⟨F0.grown hg1 (by simp), by rw [hg1.block _ (by omega) (by simp)]; exact B0, by rw [hg1.block _ (by omega) (by simp)]; exact B1,
    B2.of_block (hg1.block _ (by omega) (by simp)), hi1, by simp⟩
  clear F0 B0 B1 B2 S0 M0 hi1 hg1
  have HI := Lib.hid I1
  clear I1
  go_frame
  go_loopw [] (fun wr => ∃ tk dk, CloneInv w wr (.slice p nn c) m ks tk dk) (fun wr => leftIn wr (w.heap.size + 1 + 1 + 1) m)
  case atStart => exact ⟨ks, [], HI.out⟩
  case round =>
    obtain ⟨tk, dk, I⟩ := hrel
    have hsz : w.heap.size + 1 + 1 + 1 < wr.heap.size := by
      obtain ⟨es, cl, sn, _, hh, _⟩ := I.iter
      exact blk_lt hh
    have II := Lib.hid I
    have hI := I.iter
    have hD := I.done
    have c0 : wr.cell? ⟨w.heap.size, 0, none⟩ = some (.slice p nn c) := cell_of I.s0 rfl
    have hleft := I.iter.left
    clear I
    go_wp2_with (first | (at_next; refine wpl_next _ rfl _ rfl rfl hI (fun h0 => ?_) (fun y vv todo' w1 hp hi1 hg1 hs1 hen => ?_)) | (at_mapUpdate; refine wpl_update _ rfl _ _ _ rfl kI Tryz.underlying100 y rfl rfl (hD.of_block (hg1.block _ (by omega) (by simp))) (fun w2 hm2 hg2 hs2 => ?_)))
    · have htk : tk = [] := by simpa [ent] using h0
      subst htk
      refine (KEY.out wr II.out.frm).mono ?_
      rintro e w' ⟨v', rfl, hrow, hbel⟩
      have b1 : w'.heap[w.heap.size + 1]? = some (.cells #[.slice none 0 0, .map none] 102 (0, 0)) := by rw [hbel.block _ (by omega)]; exact II.out.s1
      have z0 : w'.cell? ⟨w.heap.size + 1, 0, none⟩ = some (.slice none 0 0) := cell_of b1 rfl
      have z1 : w'.cell? ⟨w.heap.size + 1, 1, none⟩ = some (.map none) := cell_of b1 rfl
      have z2 : w'.frozen? ⟨w.heap.size + 1, 0, none⟩ = false := frozen_of b1
      have z3 : w'.frozen? ⟨w.heap.size + 1, 1, none⟩ = false := frozen_of b1
      have hb2 : w'.heap[w.heap.size + 1 + 1]? = wr.heap[w.heap.size + 1 + 1]? := hbel.block _ (by omega)
      have hD' : MapAt (Value.int .i64) w' (w.heap.size + 1 + 1) (ent dk) := hD.of_block hb2
      have hperm : dk.Perm ks := by simpa using II.out.perm
      have hfin : Hid (∀ u1 u2, ∃ v'' m', v' = v'' ∧ m' = w.heap.size + 1 + 1 ∧ ((w'.setCell ⟨w.heap.size + 1, 0, none⟩ u1).setCell ⟨w.heap.size + 1, 1, none⟩ u2).ownsRow w.heap.size 5 1 v'' xs.length (u8s xs) ∧ SetAt ((w'.setCell ⟨w.heap.size + 1, 0, none⟩ u1).setCell ⟨w.heap.size + 1, 1, none⟩ u2) m' S ∧
          Below w.heap.size w ((w'.setCell ⟨w.heap.size + 1, 0, none⟩ u1).setCell ⟨w.heap.size + 1, 1, none⟩ u2) ∧ w.heap.size ≤ m' ∧ m' < ((w'.setCell ⟨w.heap.size + 1, 0, none⟩ u1).setCell ⟨w.heap.size + 1, 1, none⟩ u2).heap.size ∧ v''.ownBlock ≠ some m') := by
        intro u1 u2
        refine ⟨v', _, rfl, rfl, ⟨hrow.1, ?_⟩, ⟨dk, ?_, hperm.nodup_iff.2 hnd, fun k => (hperm.mem_iff).trans (HMem.out k)⟩, ?_, by omega, ?_, ?_⟩
        · rcases hrow.2 with h2 | ⟨g, cap, cur, hv', hg', hh, r⟩
          · exact .inl h2
          · exact .inr ⟨g, cap, cur, hv', by omega, by rw [blk_set_ne (by omega), blk_set_ne (by omega)]; exact hh, r⟩
        · exact hD'.of_block (by rw [blk_set_ne (by omega), blk_set_ne (by omega)])
        · have hf := II.out.frm.trans (Frm.of_below hbel (fun _ => False)) (fun _ _ h => h)
          exact (((hf.setCell _ _ (fun h => by simp at h; omega)).setCell _ _ (fun h => by simp at h; omega))).below (fun _ h => h.elim) (Nat.le_refl _)
        · have := hbel.size
          simp only [World.size_setCell]
          omega
        · intro e
          rcases hrow.2 with ⟨h2, _⟩ | ⟨g, cap, cur, hv', hg', hh, r⟩
          · rw [h2] at e; simp [Value.ownBlock] at e
          · rw [hv'] at e
            have : g = w.heap.size + 1 + 1 := by simpa [Value.ownBlock] using e
            omega
      have hce : Hid (∀ u1 u2, (w'.setCell ⟨w.heap.size + 1, 0, none⟩ u1).cell? ⟨w.heap.size + 1, 0, none⟩ = some u1 ∧ ((w'.setCell ⟨w.heap.size + 1, 0, none⟩ u1).setCell ⟨w.heap.size + 1, 1, none⟩ u2).cell? ⟨w.heap.size + 1, 1, none⟩ = some u2) := by
        intro u1 u2
        exact ⟨cell_of (blk_set b1) rfl, cell_of (blk_set (blk_set b1)) rfl⟩
      have hvs : v' = .slice none 0 0 ∨ ∃ g cap, v' = .slice (some ⟨g, 0, none⟩) xs.length cap := by
        rcases hrow.2 with ⟨h2, _⟩ | ⟨g, cap, cur, hv', hg', hh, r⟩
        · exact .inl h2
        · exact .inr ⟨g, cap, hv'⟩
      clear hrow hbel b1 hb2 hD' hperm c0 hD hI hleft
      rcases hvs with rfl | ⟨g, cap, rfl⟩ <;> (
        go_wp2_with fail
        obtain ⟨v'', m', rfl, rfl, r⟩ := hfin.out _ _
        have y0 := fun u1 => (hce.out u1 .nilIface).1
        have y1 := fun u1 u2 => (hce.out u1 u2).2
        exact bodyPost_ret (by simp [results, Tryz.results59, go_sem, y0, y1]) rfl ⟨_, _, rfl, r⟩)
    · obtain ⟨rfl, tk', rfl, hp'⟩ := ent_perm hp
      have hI2 : IterAt (Value.int .i64) w2 (w.heap.size + 1 + 1 + 1) m (ent ks) (ent tk') := hi1.of_block (hg2.block _ (by have := hg1.size; omega) (by simp; omega)) (hg2.block _ (by have := hg1.size; omega) (by simp))
      have hnd2 : (tk ++ dk).Nodup := II.out.perm.nodup_iff.2 hnd
      have hy : y ∉ dk := fun h => (List.nodup_append.1 hnd2).2.2 y (hp'.mem_iff.2 List.mem_cons_self) y h rfl
      refine ⟨⟨_, _, _, _, _, _, _, ⟨tk', dk ++ [y], ⟨?_, ?_, ?_, ?_, hI2, ?_⟩⟩, rfl⟩, ?_⟩
      · exact (II.out.frm.grown hg1 (fun k e hk => by have := Option.some.inj e; omega)).grown hg2 (fun k e hk => by have := Option.some.inj e; omega)
      · rw [hg2.block _ (by have := hg1.size; omega) (by simp; omega), hg1.block _ (by omega) (by simp; omega)]; exact II.out.s0
      · rw [hg2.block _ (by have := hg1.size; omega) (by simp), hg1.block _ (by omega) (by simp)]; exact II.out.s1
      · rw [← setL_ent hy]; exact hm2
      · refine List.Perm.trans ?_ II.out.perm
        refine List.Perm.trans ?_ (hp'.symm.append_right dk)
        rw [← List.append_assoc]
        exact List.perm_append_singleton y (tk' ++ dk)
      · rw [hI2.left, hleft]
        have := hp'.length_eq
        simp [ent] at this ⊢
        omega
end Go.Proofs.YtglhedahannjiaaGreatDoor.Dw
