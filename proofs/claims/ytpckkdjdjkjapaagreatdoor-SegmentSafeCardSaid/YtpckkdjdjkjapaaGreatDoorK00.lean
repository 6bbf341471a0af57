/- A part of the proof of segmentSafe_holds: what is wanted besides. No condition. -/
import Derived.Below
import Derived.Deep.Draws
import Derived.Deep.AppendLies
import Derived.Maps.AppendAt
import Derived.OwnWalk
import Derived.Laws.BytesArg
import Derived.Laws.MakeOwn
import Derived.Laws.OwnMore
import Derived.Deep.OwnRows
import Derived.Tactics
import Derived.Lib.ConvBytes
import Derived.Laws.Slices
import Derived.WalkKit
import Derived.KernelRfl
import Derived.RowKit3
import Derived.Deep.LoopGhost
import Derived.Deep.QuietTactic
import Derived.BigQuiet
import Derived.WideLaws
import Derived.Deep.DeepCutAuto
import Derived.Deep.CutBlock
import Derived.Deep.RegionHeld3
import Derived.Laws.Rows
import Derived.Lib.AppendStr
import Derived.ArgAppend
import Derived.Laws.IdiomCopy
import Derived.RowKit
import Derived.StillTailTactics
import Derived.Test.YtpckkdjdjkjapaaGreatDoorC29

/- The disk as plain data: what each call does (no program in sight). -/
namespace Go.Proofs.YtpckkdjdjkjapaaGreatDoor.Dm
set_option linter.unusedVariables false
def cutBad (b : Nat → Bool) (n : Int) : Nat → Bool := fun k => b k && decide ((k : Int) * 512 < n)
def FileS.trunc (n : Int) (f : FileS) : FileS :=
  { seen := f.seen.take n.toNat, safe := f.safe.take n.toNat, badSeen := cutBad f.badSeen n, badSafe := cutBad f.badSafe n, waits := cutBad f.waits n }
def Disk.seenLen (d : Disk) (n : Name) : Nat := match find d.now n with | some i => (d.files[i]?.map (·.seen.length)).getD 0 | none => 0
def Disk.refuseTrunc (d : Disk) (n : Name) (k : Int) : Err :=
  if d.gone n ≠ 0 then d.gone n else if k < 0 ∨ k % 512 ≠ 0 ∨ k > d.seenLen n then eArg else 0
def Disk.truncate (d : Disk) (n : Name) (k : Int) : Err × Disk := d.run (d.refuseTrunc n k) (Disk.onFile n (FileS.trunc k)) false none
end Go.Proofs.YtpckkdjdjkjapaaGreatDoor.Dm


/- The disk as plain data: what a loss of power leaves, what is seen, what an image loads to. -/
namespace Go.Proofs.YtpckkdjdjkjapaaGreatDoor.Dm
set_option linter.unusedVariables false
/-- The bytes of sector k are zeros. -/
def clearAt (k : Nat) (d : List Int) : List Int := d.take (k * 512) ++ List.replicate (min ((k + 1) * 512) d.length - k * 512) 0 ++ d.drop (min ((k + 1) * 512) d.length)
def clearBad : List Int → List Int → List Int
  | [], d => d
  | k :: l, d => clearBad l (clearAt k.toNat d)
def loadFile (p : Plain) : FileS := ⟨clearBad p.bad p.data, clearBad p.bad p.data, fun k => decide ((k : Int) ∈ p.bad), fun k => decide ((k : Int) ∈ p.bad), fun _ => false⟩
def badOk (p : Plain) : Prop := p.bad.Pairwise (· < ·) ∧ ∀ k, k ∈ p.bad → 0 ≤ k ∧ k < (sectors p.data.length : Nat)
def nameLt (a b : Name) : Prop := a.data.toList < b.data.toList
/-- A list of files that is an image. -/
structure Good (l : List Plain) : Prop where
  names : ∀ p, p ∈ l → good p.name = true
  order : (l.map (·.name)).Pairwise nameLt
  bads : ∀ p, p ∈ l → badOk p
def named : List Plain → Nat → List (Name × Nat)
  | [], _ => []
  | p :: l, i => (p.name, i) :: named l (i + 1)
def Disk.load (l : List Plain) : Disk := { Disk.new with files := l.map loadFile, now := named l 0, sure := named l 0 }
end Go.Proofs.YtpckkdjdjkjapaaGreatDoor.Dm


/- The pure disk: what holds of every disk that the calls make. -/
namespace Go.Proofs.YtpckkdjdjkjapaaGreatDoor.Dm
set_option linter.unusedVariables false
theorem FOK.trunc {f : FileS} (h : FOK f) (n : Int) (h0 : 0 ≤ n) (h5 : n % 512 = 0) (hn : n ≤ f.seen.length) : FOK (f.trunc n) := by
  obtain ⟨m, rfl⟩ := Int.eq_ofNat_of_zero_le h0
  have hs := h.sub
  have key : ∀ (b : Nat → Bool) k, cutBad b (m : Int) k = true ↔ b k = true ∧ k * 512 < m := by
    intro b k; unfold cutBad; rw [Bool.and_eq_true, decide_eq_true_eq]
    exact and_congr_right fun _ => ⟨fun h => by omega, fun h => by omega⟩
  have key2 : ∀ (b : Nat → Bool) k, cutBad b (m : Int) k = (b k && decide (k * 512 < m)) := by
    intro b k; rw [Bool.eq_iff_iff, key]; simp only [Bool.and_eq_true, decide_eq_true_eq]
  unfold FileS.trunc
  simp only [Int.toNat_natCast]
  constructor
  · show (f.safe.take m).length ≤ (f.seen.take m).length; simp; omega
  · intro i hw
    show (f.seen.take m)[i]? = (f.safe.take m)[i]?
    rcases Nat.lt_or_ge i m with hi | hi
    · rw [List.getElem?_take_of_lt hi, List.getElem?_take_of_lt hi]
      refine h.agree i ?_
      change cutBad f.waits (m : Int) (i / 512) = false at hw
      rw [key2] at hw
      have : decide (i / 512 * 512 < m) = true := by simp; omega
      rw [this, Bool.and_true] at hw
      exact hw
    · rw [List.getElem?_eq_none (by simp; omega), List.getElem?_eq_none (by simp; omega)]
  · intro k hw
    show cutBad f.badSeen (m : Int) k = cutBad f.badSafe (m : Int) k
    change cutBad f.waits (m : Int) k = false at hw
    rw [key2] at hw ⊢
    rw [key2]
    cases hd : decide (k * 512 < m) with
    | false => simp
    | true => rw [hd, Bool.and_true] at hw; rw [h.agreeBad k hw]
  · intro k hw
    have h1 := (key _ _).1 hw
    have h2 := h.wlt k h1.1
    show k < sectors (f.seen.take m).length
    rw [sectors_lt] at h2 ⊢; rw [List.length_take]; omega
  · intro k hw
    have h1 := (key _ _).1 hw
    show cutBad f.badSeen (m : Int) k = false
    rw [key2, h.wbad k h1.1]; rfl
  · intro k hb
    have h1 := (key _ _).1 hb
    show k < sectors (f.seen.take m).length
    rw [sectors_lt, List.length_take]; omega
  · intro k hb
    have h1 := (key _ _).1 hb
    have h2 := h.bsafe k h1.1
    show k < sectors (f.safe.take m).length
    rw [sectors_lt] at h2 ⊢; rw [List.length_take]; omega
  · intro i hb
    have h1 := (key _ _).1 hb
    have h2 := h.zseen i h1.1
    show (f.seen.take m).getD i 0 = 0
    rw [List.getD_eq_getElem?_getD] at h2 ⊢
    rw [List.getElem?_take]
    split
    · exact h2
    · rfl
  · intro i hb
    have h1 := (key _ _).1 hb
    have h2 := h.zsafe i h1.1
    show (f.safe.take m).getD i 0 = 0
    rw [List.getD_eq_getElem?_getD] at h2 ⊢
    rw [List.getElem?_take]
    split
    · exact h2
    · rfl
  · exact fun x hx => h.byteSeen x (List.mem_of_mem_take hx)
  · exact fun x hx => h.byteSafe x (List.mem_of_mem_take hx)
/-! ### Names -/
theorem Inv.opTruncate {D : Disk} (h : Inv D) (n : Name) (k : Int) : Inv (D.truncate n k).2 := by
  refine h.run (fun hr D1 hD => (h.tickDark hD).1.onFile fun i f hi hf hok => ?_) (fun _ p n hp => by cases hp)
  obtain ⟨_, h2, h3⟩ := h.tickDark hD
  unfold Disk.refuseTrunc at hr
  split at hr
  · rename_i hne; exact absurd hr hne
  · split at hr
    · cases hr
    · rename_i hc
      simp only [not_or, Int.not_lt] at hc
      rw [h2] at hi
      rw [h3] at hf
      have hs : D.seenLen n = f.seen.length := by unfold Disk.seenLen; rw [hi]; simp [hf]
      have h0 := hc.1
      have h1 := hc.2.1
      have h4 := hc.2.2
      exact hok.trunc k h0 (by omega) (by omega)
end Go.Proofs.YtpckkdjdjkjapaaGreatDoor.Dm


/- The pure disk: what a loss of power leaves is an image; an image that is loaded lies as it is. -/
namespace Go.Proofs.YtpckkdjdjkjapaaGreatDoor.Dm
set_option linter.unusedVariables false
theorem nameLe_of_lt {a b : Name} (h : nameLt a b) : nameLe a b = true := by unfold nameLe; unfold nameLt at h; simpa using List.le_of_lt h
theorem nameLt_of {a b : Name} (h : nameLe a b = true) (hne : a ≠ b) : nameLt a b := by
  unfold nameLt
  rcases Decidable.em (b.data.toList ≤ a.data.toList) with h2 | h2
  · exact absurd (nameLe_antisymm h (by unfold nameLe; simpa using h2)) hne
  · exact List.not_le.mp h2
theorem nameLt_ne {a b : Name} (h : nameLt a b) : a ≠ b := by rintro rfl; exact List.lt_irrefl _ h
theorem inOrder_names {l : List (Name × Nat)} (h : (l.map (·.1)).Nodup) : ((inOrder l).map (·.1)).Pairwise nameLt := by
  have hn : ((inOrder l).map (·.1)).Nodup := ((inOrder_perm l).map (·.1)).nodup_iff.2 h
  have h1 : ((inOrder l).map (·.1)).Pairwise fun a b => nameLe a b = true := List.pairwise_map.2 (inOrder_sorted l)
  exact (h1.and hn).imp fun h => nameLt_of h.1 h.2
open Classical in
/-- What a loss of power leaves, file by file. -/
theorem crash_eq {D : Disk} (h : Inv D) (fs : List Int) (k : Int) : ∃ at_ : Name × Nat → Nat, (∀ p, p ∈ D.left k.toNat → at_ p + (waitList (D.file p.2)).length ≤ ((byBirth (D.left k.toNat)).map fun p => (waitList (D.file p.2)).length).sum) ∧
    D.crash fs k = (inOrder (D.left k.toNat)).map fun p => plain p.1 ((D.file p.2).fated (fatesFrom fs (at_ p) (waitList (D.file p.2)).length)) := by
  have hns : ((D.left k.toNat).map (·.1)).Nodup := by
    rcases Nat.lt_or_ge D.changes.length k.toNat with hk | hk
    · have : D.left k.toNat = D.left D.changes.length := by unfold Disk.left; rw [List.take_of_length_le (by omega), List.take_of_length_le (Nat.le_refl _)]
      rw [this]; exact (h.each _ (Nat.le_refl _)).names
    · exact (h.each _ hk).names
  have hnb : ((byBirth (D.left k.toNat)).map (·.1)).Nodup := ((byBirth_perm _).map (·.1)).nodup_iff.2 hns
  have key : ∀ p, p ∈ D.left k.toNat → ∃ c', c' + (waitList (D.file p.2)).length ≤ ((byBirth (D.left k.toNat)).map fun p => (waitList (D.file p.2)).length).sum ∧ sideOf (sidesBy D fs (byBirth (D.left k.toNat)) 0) p.1 = (D.file p.2).fated (fatesFrom fs c' (waitList (D.file p.2)).length) := by
    intro p hp
    obtain ⟨c', _, h2, h3⟩ := sidesBy_of (D := D) (fs := fs) (byBirth (D.left k.toNat)) 0 hnb p ((byBirth_perm _).mem_iff.2 hp)
    exact ⟨c', by omega, h3⟩
  refine ⟨fun p => if hp : p ∈ D.left k.toNat then (key p hp).choose else 0, fun p hp => ?_, ?_⟩
  · simp only [hp, dif_pos]; exact (key p hp).choose_spec.1
  · unfold Disk.crash
    refine List.map_congr_left fun p hp => ?_
    have hp' : p ∈ D.left k.toNat := (inOrder_perm _).mem_iff.1 hp
    have e := (key p hp').choose_spec.2
    simp only [hp', dif_pos]
    exact congrArg (plain p.1) e
/-- An image as a disk answers one. -/
structure Img (l : List Plain) : Prop where
  good : Good l
  zero : ∀ p, p ∈ l → ∀ i : Nat, ((i / 512 : Nat) : Int) ∈ p.bad → p.data.getD i 0 = 0
  bytes : ∀ p, p ∈ l → ∀ x, x ∈ p.data → 0 ≤ x ∧ x < 256
theorem img_of {ns : List (Name × Nat)} {N : Nat} (h : Ns N ns) {g : Name × Nat → Side} (hg : ∀ p, p ∈ ns → SOK (g p)) : Img ((inOrder ns).map fun p => plain p.1 (g p)) := by
  have hm : ∀ q, q ∈ (inOrder ns).map (fun p => plain p.1 (g p)) → ∃ p, p ∈ ns ∧ q = plain p.1 (g p) := by
    intro q hq
    obtain ⟨p, hp, rfl⟩ := List.mem_map.1 hq
    exact ⟨p, (inOrder_perm _).mem_iff.1 hp, rfl⟩
  refine ⟨⟨fun q hq => ?_, ?_, fun q hq => ?_⟩, fun q hq i hi => ?_, fun q hq => ?_⟩
  · obtain ⟨p, hp, rfl⟩ := hm q hq; exact h.good p hp
  · rw [List.map_map]; exact inOrder_names h.names
  · obtain ⟨p, hp, rfl⟩ := hm q hq
    refine ⟨numbers_pairwise _ _, fun k hk => ?_⟩
    obtain ⟨h1, h2, _⟩ := numbers_mem.1 hk
    exact ⟨h1, h2⟩
  · obtain ⟨p, hp, rfl⟩ := hm q hq
    obtain ⟨_, _, h3⟩ := numbers_mem.1 hi
    exact (hg p hp).zero i (by rw [Int.toNat_natCast] at h3; exact h3)
  · obtain ⟨p, hp, rfl⟩ := hm q hq; exact (hg p hp).bytes
theorem crash_img {D : Disk} (h : Inv D) (fs : List Int) (k : Int) : Img (D.crash fs k) := by
  obtain ⟨c, _, e⟩ := crash_eq h fs k
  rw [e]
  exact img_of (h.leftNs _) fun p _ => (fated_ok (h.fileOk _) _).1
end Go.Proofs.YtpckkdjdjkjapaaGreatDoor.Dm


-- PRINTED WORDS (module Derived/Print/Words.lean): go-wishes' parts 1 to 38 and go-gate-2's additions: AI agents of Go's test side, Mon Nov 16 2026; no person has read them. Plain theorems and definitions: no macro, no elab, no axiom.
set_option linter.unusedVariables false
set_option linter.unusedSimpArgs false
namespace Go.Proofs.YtpckkdjdjkjapaaGreatDoorW.PrintWords
open Go.RowKit
/-! ### 1. Values and lists -/
/-! ### 2. The world -/
/-! ### 3. A slice of whole numbers that is read; nil, empty and other slices alike -/
/-! ### 4. A row of the call's own -/
/-! ### 5. append(v, x): behind 'at_builtin'; the goal's world is 'W.alloc' of the variadic's box -/
section
variable {P : Program} {ops : Array Oper} {rest : List Oper} {o : Oper} {a : Act} {Q : Exit → Act → World → Prop}
end
/-! ### 6. make([]T, n), n an Int; a literal -/
section
variable {P : Program}
end
/-! ### 7. v[i] read and v[i] = x, v a row of the call's own: 'obtain ⟨g, cap, rfl, hgb, hgl⟩ := HO.out.form (by omega)' first -/
/-! ### 8. append(v, ys...): ys a slice that is read, nil let in; behind 'at_builtin' -/
section
variable {P : Program} {ops : Array Oper} {rest : List Oper} {o : Oper} {a : Act} {Q : Exit → Act → World → Prop}
end
/-! ### 9. []byte(s): a slice that is read (its row bears a conversion's mark: no row of one's own); cuts of a slice that is read -/
/-! ### 10. Rounds: more rounds give the same answer; what ends gives a number of rounds -/
/-! ### 11. Rows of elements of several cells (structs): read, made. R: what an element's cells say ('RepItem w': printed for each type) -/
section
variable {P : Program} {ops : Array Oper} {rest : List Oper} {o : Oper} {a : Act} {Q : Exit → Act → World → Prop}
end
/-! ### 12. A block of one's own that is a state: its cells, what a store leaves -/
/-! ### 13. Two states at once: what a call on the state at block g (its row before: 'row') has turned -/
/-! ### 10b. From some number of rounds on -/
/-! ### 14. append as_ one step of a region that draws its order: for 'go_region_law' (and a region walked by hand) -/
section
variable {P : Program} {ops : Array Oper} {o : Oper} {a : Act} {Q : Exit → Act → World → Prop} {K : Act → World → Prop}
end
/-! ### 15. A row's base may be lowered -/
/-! ### 16. Parts 3 to 9 for ANY element of one cell: 'enc' (Value.int k, Value.string, Value.bool), a default 'd' -/
section
variable {α : Type} {enc : α → Value} {d : α}
end
section
variable {α : Type} {P : Program} {ops : Array Oper} {rest : List Oper} {o : Oper} {a : Act} {Q : Exit → Act → World → Prop}
end
/-! ### 17. Rows of one element type held at once: no two share a block -/
/-! ### 18. A block behind a new one; behind a draw -/
/-! ### 19. Results that lie in memory beside others -/
section
variable {P : Program}
end
/-! ### 20. Rows of elements of any kind: R is what an element's cells say -/
section
variable {α : Type} {R R' : α → List Value → Prop} {e : TypeId} {size : Nat} {w w1 : World} {base : Nat} {v : Value} {ps : List α}
theorem OwnRow.lower (h : OwnRow R e size w base v ps) {base' : Nat} (hb : base' ≤ base) : OwnRow R e size w base' v ps := by
  obtain ⟨inner, ho, hr⟩ := h
  exact ⟨inner, own_weaken ho hb, hr⟩
end
section
variable {P : Program} {ops : Array Oper} {rest : List Oper} {o : Oper} {a : Act} {Q : Exit → Act → World → Prop} {α : Type} {R : α → List Value → Prop}
end
section
variable {P : Program} {ops : Array Oper} {o : Oper} {a : Act} {Q : Exit → Act → World → Prop} {K : Act → World → Prop} {α : Type} {R : α → List Value → Prop}
end
/-! ### 21. Cuts of a slice that came in, lengths spelled as_ the lists' -/
section
variable {α : Type} {P : Program}
end
/-! ### 22. append([]byte, s...), s a string; behind 'at_builtin'. (No word on where the new row lies: two rows of bytes at once don't go by it.) -/
section
variable {P : Program} {ops : Array Oper} {rest : List Oper} {o : Oper} {a : Act} {Q : Exit → Act → World → Prop}
end
/-! ### 23. KINDS: what a value's cells say, read (K) and made (M), kind by kind; every mover proved once -/
namespace Kd
section
variable {α : Type} {d : Kd α} {e : Nat} {w w1 : World} {base : Nat} {ok ok' : Nat → Prop} {v : Value} {xs : List α}
end
/-! #### the kinds -/
/-! #### an element of a row that is read; an element appended -/
section
variable {P : Program} {ops : Array Oper} {rest : List Oper} {o : Oper} {a : Act} {Q : Exit → Act → World → Prop} {α : Type}
end
section
variable {P : Program} {ops : Array Oper} {o : Oper} {a : Act} {Q : Exit → Act → World → Prop} {Kc : Act → World → Prop} {α : Type}
end
end Kd
/-! ### 24. Kinds nested in themselves -/
namespace Kd
section
variable {α : Type} {F : Kd α → Kd α} {sz : Nat} {E : List Nat} {hs : ∀ n, (upto F sz E n).sz = sz} {hE : ∀ n q, q ∈ (upto F sz E n).E → q ∈ E}
end
end Kd
/-! ### 25. What is held while another row is written: 'ok' says that its rows are none of that row's block -/
namespace Kd
end Kd
/-! ### 26. Words for a printer that takes every slice by its kind -/
namespace Kd
section
variable {α β : Type} {d : Kd α} {d' : Kd β} {e e' : Nat} {w w1 W : World} {base b b' : Nat} {ok ok' okv oku : Nat → Prop} {v u : Value} {xs : List α} {ys : List β}
end
/-! #### scalars -/
section
variable {w W : World} {A : Option Addr} {n : Nat}
variable {α : Type} {enc : α → Value} {h1 : ∀ x, (enc x).oneCell' = true} {e base g cap : Nat} {ok : Nat → Prop} {xs : List α}
end
/-! #### events: a letter for what make and a literal leave -/
section
variable {P : Program} {ops : Array Oper} {rest : List Oper} {o : Oper} {a : Act} {Q : Exit → Act → World → Prop}
variable {α : Type}
end
end Kd
/-! ### 27. Cuts of a row of one's own: 'xs = xs[:n]' stays a row (R_take); 'xs = xs[k:]' is a row that begins inside its block (Kd.Q), append goes on it too -/
section
variable {P : Program}
end
section
variable {w w1 : World} {base n size : Nat} {e : TypeId} {v : Value} {xs : List Value}
end
section
variable {P : Program}
end
/-! ### 28. The kinds' words for cuts: R_take; Q (a row that may begin inside its block) with all of R's movers -/
namespace Kd
section
variable {α : Type} {d : Kd α} {e : Nat} {w w1 W : World} {base : Nat} {ok ok' : Nat → Prop} {v : Value} {xs : List α}
end
section
variable {P : Program} {ops : Array Oper} {rest : List Oper} {o : Oper} {a : Act} {Q' : Exit → Act → World → Prop} {Kc : Act → World → Prop} {α : Type}
end
end Kd
/-! ### 29. Movers that ask of another row no more than they need: for R and for Q -/
namespace Kd
section
variable {α : Type} {d : Kd α} {e e' : Nat} {w w1 W : World} {base : Nat} {ok : Nat → Prop} {u v : Value} {xs : List α}
end
end Kd
/-! ### 30. Elements written: x[i] = T{..}, x[i].f = v, swaps, in a row of elements of any kind -/
namespace Kd
section
variable {α : Type} {d : Kd α} {e base g n cap : Nat} {ok okp : Nat → Prop} {W : World} {xs : List α}
end
end Kd
/-! ### 31. What came in, put into what is made: 'fixed d w0' (read in w0, whatever happens since), 'or_ a b', 'mix' (a slice that came in, or one that is made) -/
namespace Kd
section
variable {α : Type} {F : Kd α → Kd α} {sz : Nat} {E : List Nat} {hs : ∀ n, (upto F sz E n).sz = sz} {hE : ∀ n q, q ∈ (upto F sz E n).E → q ∈ E}
end
end Kd
/-! ### 32. A whole row appended, of elements of any kind; copy onto a row of scalars of one's own -/
namespace Kd
section
variable {P : Program} {ops : Array Oper} {rest : List Oper} {o : Oper} {a : Act} {Q : Exit → Act → World → Prop} {α : Type}
end
end Kd
/-! ### 33. A store into a row of one's own, as_ an event: no go_simp -/
namespace Kd
section
variable {P : Program} {ops : Array Oper} {rest : List Oper} {o : Oper} {a : Act} {Q : Exit → Act → World → Prop} {α : Type}
end
end Kd
/-! ### 34. Cuts that are only read, of any row -/
namespace Kd
section
variable {α : Type} {k : Kd α} {w : World} {A : Option Addr} {xs : List α} {m c : Nat}
end
end Kd
section
variable {P : Program}
end
/-! ### 35. string(b), b read (a cut too) -/
/-! ### 6. What the printer adds -/
namespace Kd
section
variable {α β : Type} {d : Kd α} {d' : Kd β} {e e' base base' n : Nat} {ok ok' : Nat → Prop} {w W w1 W1 : World} {v u : Value} {xs : List α} {ys : List β} {A : Option Addr} {c : Nat}
end
section
variable {α : Type} {enc : α → Value} {h1 : ∀ x, (enc x).oneCell' = true} {w W : World} {A : Option Addr} {n g : Nat} {xs : List α}
end
end Kd
namespace Kd
section
variable {α : Type} {d : Kd α} {e base g : Nat} {ok : Nat → Prop} {w w1 : World} {v : Value} {xs : List α} {o : Obj}
end
end Kd
section
variable {P : Program} {ops : Array Oper} {rest : List Oper} {o : Oper} {a : Act} {Q : Exit → Act → World → Prop}
end
namespace Kd
section
variable {α : Type} {enc : α → Value} {h1 : ∀ x, (enc x).oneCell' = true} {e base g n cap : Nat} {ok : Nat → Prop} {W : World} {xs : List α}
end
end Kd
section
variable {P : Program} {ops : Array Oper} {rest : List Oper} {o : Oper} {a : Act} {Q : Exit → Act → World → Prop}
end
namespace Kd
section
variable {α : Type} {enc : α → Value} {h1 : ∀ x, (enc x).oneCell' = true} {e base g n cap : Nat} {ok : Nat → Prop} {W : World} {xs : List α}
end
end Kd
section
variable {P : Program} {ops : Array Oper} {rest : List Oper} {o : Oper} {a : Act} {Q : Exit → Act → World → Prop} {W : World}
end
/-! ### 36. Events as_ one step of a region that draws (for one_, two_, three_) -/
section
variable {P : Program} {ops : Array Oper} {o : Oper} {a : Act} {Q : Exit → Act → World → Prop} {Kc : Act → World → Prop}
namespace Kd
variable {α : Type}
end Kd
end
/-! ### 37. Results of any shape -/
section
variable {P : Program} {tmps : Array Value} {w : World}
end
/-! ### 38. 'out = append(out[:k], out[k+1:]...)': an element taken out of a row of one's own, in place -/
namespace Kd
section
variable {P : Program} {α : Type}
end
section
variable {P : Program} {ops : Array Oper} {rest : List Oper} {o : Oper} {a : Act} {Q : Exit → Act → World → Prop} {Kc : Act → World → Prop} {α : Type}
end
end Kd
end Go.Proofs.YtpckkdjdjkjapaaGreatDoorW.PrintWords


/- The pure disk: what an image loads to. -/
namespace Go.Proofs.YtpckkdjdjkjapaaGreatDoor.Dm
set_option linter.unusedVariables false
theorem strict_ext : ∀ {a b : List Int}, a.Pairwise (· < ·) → b.Pairwise (· < ·) → (∀ x, x ∈ a ↔ x ∈ b) → a = b
  | [], [], _, _, _ => rfl
  | [], y :: b, _, _, h => absurd ((h y).2 List.mem_cons_self) (by simp)
  | x :: a, [], _, _, h => absurd ((h x).1 List.mem_cons_self) (by simp)
  | x :: a, y :: b, ha, hb, h => by
    rw [List.pairwise_cons] at ha hb
    have e : x = y := by
      rcases List.mem_cons.1 ((h x).1 List.mem_cons_self) with e | m1
      · exact e
      · rcases List.mem_cons.1 ((h y).2 List.mem_cons_self) with e | m2
        · exact e.symm
        · have := ha.1 y m2; have := hb.1 x m1; omega
    subst e
    rw [strict_ext ha.2 hb.2 (fun z => ⟨fun hz => ?_, fun hz => ?_⟩)]
    · rcases List.mem_cons.1 ((h z).1 (List.mem_cons_of_mem _ hz)) with e | m
      · subst e; exact absurd (ha.1 z hz) (by omega)
      · exact m
    · rcases List.mem_cons.1 ((h z).2 (List.mem_cons_of_mem _ hz)) with e | m
      · subst e; exact absurd (hb.1 z hz) (by omega)
      · exact m
theorem clearAt_len (k : Nat) (d : List Int) : (clearAt k d).length = d.length := by
  unfold clearAt; simp only [List.length_append, List.length_take, List.length_replicate, List.length_drop]; omega
theorem clearAt_get (k : Nat) (d : List Int) (i : Nat) (hi : i < d.length) : (clearAt k d)[i]? = if i / 512 = k then some 0 else d[i]? := by
  unfold clearAt
  generalize hm : min ((k + 1) * 512) d.length = m
  by_cases h1 : i < k * 512
  · rw [List.append_assoc, List.getElem?_append_left (by simp; omega), List.getElem?_take_of_lt h1, if_neg (by omega)]
  · by_cases h2 : i < m
    · rw [List.getElem?_append_left (by simp; omega), List.getElem?_append_right (by simp; omega), List.getElem?_replicate, if_pos (by simp; omega), if_pos (by omega)]
    · rw [List.getElem?_append_right (by simp; omega), List.getElem?_drop, if_neg (by omega)]
      congr 1
      simp; omega
theorem clearAt_getD (k : Nat) (d : List Int) (i : Nat) : (clearAt k d).getD i 0 = if i / 512 = k then 0 else d.getD i 0 := by
  rcases Nat.lt_or_ge i d.length with hi | hi
  · rw [List.getD_eq_getElem?_getD, clearAt_get k d i hi]
    split
    · rfl
    · rw [List.getD_eq_getElem?_getD]
  · rw [List.getD_eq_getElem?_getD, List.getElem?_eq_none (by rw [clearAt_len]; exact hi), List.getD_eq_getElem?_getD, List.getElem?_eq_none hi]
    simp
theorem clearBad_len : ∀ (bad d : List Int), (clearBad bad d).length = d.length
  | [], d => rfl
  | k :: l, d => by unfold clearBad; rw [clearBad_len l, clearAt_len]
theorem clearBad_getD : ∀ (bad d : List Int) (i : Nat), (clearBad bad d).getD i 0 = if ∃ k, k ∈ bad ∧ k.toNat = i / 512 then 0 else d.getD i 0
  | [], d, i => by simp [clearBad]
  | k :: l, d, i => by
    unfold clearBad
    rw [clearBad_getD l, clearAt_getD]
    by_cases h1 : ∃ k, k ∈ l ∧ k.toNat = i / 512
    · rw [if_pos h1, if_pos]
      obtain ⟨k', h, e⟩ := h1
      exact ⟨k', List.mem_cons_of_mem _ h, e⟩
    · rw [if_neg h1]
      by_cases h2 : i / 512 = k.toNat
      · rw [if_pos h2, if_pos ⟨k, List.mem_cons_self, h2.symm⟩]
      · rw [if_neg h2, if_neg]
        rintro ⟨k', h, e⟩
        rcases List.mem_cons.1 h with rfl | h
        · exact h2 e.symm
        · exact h1 ⟨k', h, e⟩
theorem clearBad_snoc : ∀ (bad : List Int) (k : Int) (d : List Int), clearBad (bad ++ [k]) d = clearAt k.toNat (clearBad bad d)
  | [], _, _ => rfl
  | j :: l, k, d => by simp only [List.cons_append, clearBad]; exact clearBad_snoc l k _
theorem mem_clearAt {k : Nat} {d : List Int} {x : Int} (h : x ∈ clearAt k d) : x = 0 ∨ x ∈ d := by
  unfold clearAt at h
  rcases List.mem_append.1 h with h | h
  · rcases List.mem_append.1 h with h | h
    · exact .inr (List.mem_of_mem_take h)
    · exact .inl (List.eq_of_mem_replicate h)
  · exact .inr (List.mem_of_mem_drop h)
theorem mem_clearBad : ∀ {bad d : List Int} {x : Int}, x ∈ clearBad bad d → x = 0 ∨ x ∈ d
  | [], d, x, h => .inr h
  | k :: l, d, x, h => by
    unfold clearBad at h
    rcases mem_clearBad h with h | h
    · exact .inl h
    · exact mem_clearAt h
theorem FOK.load {p : Plain} (hb : badOk p) (hd : ∀ x, x ∈ p.data → 0 ≤ x ∧ x < 256) : FOK (loadFile p) := by
  have h1 : ∀ k : Nat, decide ((k : Int) ∈ p.bad) = true → k < sectors (clearBad p.bad p.data).length := by
    intro k hk
    have := (hb.2 _ (of_decide_eq_true hk)).2
    rw [clearBad_len]; omega
  have h2 : ∀ i : Nat, decide (((i / 512 : Nat) : Int) ∈ p.bad) = true → (clearBad p.bad p.data).getD i 0 = 0 := by
    intro i hi
    rw [clearBad_getD, if_pos ⟨_, of_decide_eq_true hi, by omega⟩]
  have h3 : ∀ x, x ∈ clearBad p.bad p.data → 0 ≤ x ∧ x < 256 := by
    intro x hx
    rcases mem_clearBad hx with rfl | h
    · omega
    · exact hd x h
  exact { sub := Nat.le_refl _, agree := fun _ _ => rfl, agreeBad := fun _ _ => rfl, wlt := fun k h => by simp [loadFile] at h, wbad := fun k h => by simp [loadFile] at h,
          bseen := h1, bsafe := h1, zseen := h2, zsafe := h2, byteSeen := h3, byteSafe := h3 }
theorem named_names : ∀ (l : List Plain) (i : Nat), (named l i).map (·.1) = l.map (·.name)
  | [], _ => rfl
  | p :: l, i => by simp [named, named_names l]
theorem named_ids : ∀ (l : List Plain) (i : Nat), (named l i).map (·.2) = (List.range' i l.length)
  | [], _ => rfl
  | p :: l, i => by simp [named, named_ids l, List.range'_succ]
theorem named_snoc : ∀ (l : List Plain) (p : Plain) (i : Nat), named (l ++ [p]) i = named l i ++ [(p.name, i + l.length)]
  | [], p, i => by simp [named]
  | q :: l, p, i => by
    simp only [List.cons_append, named, named_snoc l p (i + 1), List.length_cons]
    rw [Nat.add_right_comm, Nat.add_assoc i]
theorem names_nodup {l : List Plain} (h : (l.map (·.name)).Pairwise nameLt) : (l.map (·.name)).Nodup := h.imp fun h => nameLt_ne h
theorem Ns.load {l : List Plain} (h : Good l) : Ns l.length (named l 0) := by
  refine ⟨by rw [named_names]; exact names_nodup h.order, by rw [named_ids]; exact List.nodup_range', fun p hp => ?_, fun p hp => ?_⟩
  · have := List.mem_map_of_mem (f := (·.2)) hp
    rw [named_ids, List.mem_range'_1] at this
    omega
  · have := List.mem_map_of_mem (f := (·.1)) hp
    rw [named_names] at this
    obtain ⟨q, hq, e⟩ := List.mem_map.1 this
    rw [← e]; exact h.names q hq
theorem Inv.load {l : List Plain} (h : Good l) (hd : ∀ p, p ∈ l → ∀ x, x ∈ p.data → 0 ≤ x ∧ x < 256) : Inv (Disk.load l) := by
  refine ⟨rfl, fun k hk => ?_, fun c hc => by simp [Disk.load, Disk.new] at hc, fun c hc => by simp [Disk.load, Disk.new] at hc, fun f hf => ?_⟩
  · have e : (Disk.load l).left k = named l 0 := by simp [Disk.left, Disk.load, Disk.new]
    have e2 : (Disk.load l).files.length = l.length := by simp [Disk.load]
    rw [e, e2]; exact Ns.load h
  · obtain ⟨p, hp, rfl⟩ := List.mem_map.1 hf
    exact FOK.load (h.bads p hp) (hd p hp)
theorem named_map {β : Type} : ∀ (l : List Plain) (i : Nat) (g : Name × Nat → β) (h : Plain → β), (∀ j p, l[j]? = some p → g (p.name, i + j) = h p) → (named l i).map g = l.map h
  | [], _, _, _, _ => rfl
  | p :: l, i, g, h, hh => by
    simp only [named, List.map_cons]
    have h0 : g (p.name, i) = h p := hh 0 p rfl
    rw [h0, named_map l (i + 1) g h (fun j q hq => by
      have := hh (j + 1) q hq
      rw [← this, Nat.add_right_comm, Nat.add_assoc])]
theorem load_inOrder {l : List Plain} (h : Good l) : inOrder (named l 0) = named l 0 := by
  unfold inOrder
  refine List.mergeSort_of_pairwise ?_
  have : ((named l 0).map (·.1)).Pairwise nameLt := by rw [named_names]; exact h.order
  exact (List.pairwise_map.1 this).imp fun h => nameLe_of_lt h
theorem load_file {l : List Plain} {j : Nat} {p : Plain} (h : l[j]? = some p) : (Disk.load l).file j = loadFile p := by
  unfold Disk.file Disk.load
  simp only [List.getElem?_map, h]; rfl
theorem clearBad_self {p : Plain} (h : ∀ i : Nat, ((i / 512 : Nat) : Int) ∈ p.bad → p.data.getD i 0 = 0) (hb : badOk p) : clearBad p.bad p.data = p.data := by
  apply List.ext_getElem?
  intro i
  rcases Nat.lt_or_ge i p.data.length with hi | hi
  · have h1 := clearBad_getD p.bad p.data i
    have h2 : (clearBad p.bad p.data)[i]? = some ((clearBad p.bad p.data).getD i 0) := by
      rw [List.getD_eq_getElem?_getD, List.getElem?_eq_getElem (by rw [clearBad_len]; exact hi)]; rfl
    have h3 : p.data[i]? = some (p.data.getD i 0) := by rw [List.getD_eq_getElem?_getD, List.getElem?_eq_getElem hi]; rfl
    rw [h2, h3, h1]
    split
    · rename_i hk
      obtain ⟨k, hk, e⟩ := hk
      have := (hb.2 k hk).1
      rw [h i (by rw [← e, Int.toNat_of_nonneg this]; exact hk)]
    · rfl
  · rw [List.getElem?_eq_none (by rw [clearBad_len]; exact hi), List.getElem?_eq_none hi]
theorem numbers_bad {p : Plain} (hb : badOk p) : numbers (fun k => decide ((k : Int) ∈ p.bad)) (sectors p.data.length) = p.bad := by
  refine strict_ext (numbers_pairwise _ _) hb.1 fun x => ?_
  rw [numbers_mem]
  constructor
  · rintro ⟨h1, h2, h3⟩
    have := of_decide_eq_true h3
    rwa [Int.toNat_of_nonneg h1] at this
  · intro hx
    obtain ⟨h1, h2⟩ := hb.2 x hx
    exact ⟨h1, h2, by rw [Int.toNat_of_nonneg h1]; exact decide_eq_true hx⟩
theorem plain_load {p : Plain} (h : ∀ i : Nat, ((i / 512 : Nat) : Int) ∈ p.bad → p.data.getD i 0 = 0) (hb : badOk p) : plain p.name ⟨(loadFile p).seen, (loadFile p).badSeen⟩ = p := by
  unfold plain loadFile
  simp only
  rw [clearBad_self h hb, numbers_bad hb]
/-- What a disk of an image shows. -/
theorem load_seen {l : List Plain} (h : Img l) : (Disk.load l).seenImg = l := by
  have e : (Disk.load l).seenImg = (inOrder (named l 0)).map fun p => plain p.1 ⟨((Disk.load l).file p.2).seen, ((Disk.load l).file p.2).badSeen⟩ := rfl
  rw [e, load_inOrder h.good, named_map l 0 _ id, List.map_id]
  intro j p hp
  have hm := List.mem_of_getElem? hp
  simp only [Nat.zero_add, load_file hp]
  exact plain_load (h.zero p hm) (h.good.bads p hm)
end Go.Proofs.YtpckkdjdjkjapaaGreatDoor.Dm


/- What is found behind a loss of power: the records of the blocks at the front. -/
namespace Go.Proofs.YtpckkdjdjkjapaaGreatDoor.Sg
set_option linter.unusedVariables false
section
variable (sm : Bytes → Nat)
theorem numAt_succ {first : Nat} {gs : List (List Bytes)} {i : Nat} {g : List Bytes} (h : gs[i]? = some g) : numAt first gs (i + 1) = numAt first gs i + g.length := by
  unfold numAt
  rw [List.take_add_one, h]
  simp; omega
def sector (data : Bytes) (i : Nat) : Bytes := (data.drop (i * 512)).take 512
/-- A sector that is taken is a block of the list, at its place. -/
def Fair (data : Bytes) (bad : List Int) (first : Nat) (gs : List (List Bytes)) : Prop :=
  ∀ i, (i + 1) * 512 ≤ data.length → ¬ (i : Int) ∈ bad → ∀ a rs, decode sm (sector data i) = some (a, rs) → gs[i]? = some rs ∧ a = numAt first gs i
/-- The first s sectors are there. -/
def Sure (data : Bytes) (bad : List Int) (first : Nat) (gs : List (List Bytes)) (s : Nat) : Prop :=
  ∀ i, i < s → (i + 1) * 512 ≤ data.length ∧ ¬ (i : Int) ∈ bad ∧ ∃ g, gs[i]? = some g ∧ decode sm (sector data i) = some (numAt first gs i, g)
theorem scan_fair {data : Bytes} {bad : List Int} {first : Nat} {gs : List (List Bytes)} (hf : Fair sm data bad first gs) {s : Nat} (hs : Sure sm data bad first gs s) : ∀ (fuel i : Nat), s ≤ i + fuel → ∃ m, s ≤ i + m ∧ i + m ≤ max i gs.length ∧ scan sm data bad fuel i (numAt first gs i) = (((gs.drop i).take m).flatten, m)
  | 0, i, h => ⟨0, h, by omega, by simp [scan]⟩
  | fuel + 1, i, h => by
    unfold scan
    by_cases hc : (i + 1) * 512 ≤ data.length ∧ ¬ (i : Int) ∈ bad
    · rw [if_pos hc]
      cases hd : decode sm ((data.drop (i * 512)).take 512) with
      | none =>
        refine ⟨0, ?_, by omega, by simp⟩
        rcases Nat.lt_or_ge i s with h1 | h1
        · obtain ⟨_, _, g, _, hg⟩ := hs i h1
          unfold sector at hg
          rw [hd] at hg; cases hg
        · omega
      | some p =>
        obtain ⟨a, rs⟩ := p
        obtain ⟨h1, h2⟩ := hf i hc.1 hc.2 a rs hd
        have hi : i < gs.length := (List.getElem?_eq_some_iff.1 h1).1
        obtain ⟨m, m1, m2, m3⟩ := scan_fair hf hs fuel (i + 1) (by omega)
        simp only []
        rw [if_pos h2, ← numAt_succ h1, m3]
        refine ⟨m + 1, by omega, by omega, ?_⟩
        have e : gs.drop i = rs :: gs.drop (i + 1) := by
          rw [List.drop_eq_getElem_cons hi]
          have : gs[i] = rs := by rw [List.getElem?_eq_getElem hi] at h1; exact Option.some.inj h1
          rw [this]
        rw [e]
        simp
    · rw [if_neg hc]
      refine ⟨0, ?_, by omega, by simp⟩
      rcases Nat.lt_or_ge i s with h1 | h1
      · obtain ⟨q1, q2, _⟩ := hs i h1
        exact absurd ⟨q1, q2⟩ hc
      · omega
theorem sector_lay : ∀ (gs : List (List Bytes)) (first i : Nat) (t : Bytes), (∀ g, g ∈ gs → GoodG g) → ∀ g, gs[i]? = some g → sector (lay sm first gs ++ t) i = blk sm (numAt first gs i) g
  | [], _, _, _, _, _, h => by simp at h
  | g0 :: gs, first, i, t, hg, g, h => by
    have hb := blk_length sm (first := first) (hg g0 List.mem_cons_self).room
    cases i with
    | zero =>
      have : g0 = g := by simpa using h
      subst this
      unfold sector numAt
      simp [lay, List.append_assoc, List.take_left' hb]
    | succ i =>
      have := sector_lay gs (first + g0.length) i t (fun x hx => hg x (List.mem_cons_of_mem _ hx)) g (by simpa using h)
      have e : numAt first (g0 :: gs) (i + 1) = numAt (first + g0.length) gs i := by unfold numAt; simp [Nat.add_assoc]
      rw [e, ← this]
      unfold sector
      rw [lay, List.append_assoc, show (i + 1) * 512 = 512 + i * 512 by omega, ← List.drop_drop, List.drop_left' hb]
end
end Go.Proofs.YtpckkdjdjkjapaaGreatDoor.Sg


/- A file of blocks of which sectors are spoilt: what a scan finds of it. -/
namespace Go.Proofs.YtpckkdjdjkjapaaGreatDoor.Sg
set_option linter.unusedVariables false
section
variable (sm : Bytes → Nat)
theorem decode_zeros (n : Nat) : decode sm (zeros n) = none := by
  unfold decode
  rw [if_neg]
  rintro ⟨_, h, _⟩
  unfold zeros at h
  rw [List.take_replicate] at h
  have h0 : (84 : Int) ∈ List.replicate (min 4 n) (0 : Int) := by rw [h]; decide
  have := (List.mem_replicate.1 h0).2
  omega
/-- Each whole sector that is read is as it was written, or nothing but zeros. -/
def Spoilt (data : Bytes) (bad : List Int) (whole : Bytes) : Prop :=
  ∀ i, (i + 1) * 512 ≤ data.length → ¬ (i : Int) ∈ bad → ((i + 1) * 512 ≤ whole.length ∧ sector data i = sector whole i) ∨ sector data i = zeros 512
theorem decode_at (hsm : ∀ b, sm b < 4294967296) {first : Nat} {gs : List (List Bytes)} {i : Nat} {g : List Bytes} (hn : gs ≠ [] → numbers first gs.flatten.length) (hg : ∀ g, g ∈ gs → GoodG g) (h : gs[i]? = some g) : decode sm (sector (lay sm first gs) i) = some (numAt first gs i, g) := by
  have hm : g ∈ gs := List.mem_of_getElem? h
  have h1 := sector_lay sm gs first i [] hg g h
  rw [List.append_nil] at h1
  rw [h1]
  exact decode_blk sm hsm (numbers_at (hn (List.ne_nil_of_mem hm)) h (hg g hm)) (hg g hm).len (hg g hm).room
theorem fair_of (hsm : ∀ b, sm b < 4294967296) {data : Bytes} {bad : List Int} {first : Nat} {gs : List (List Bytes)} (hn : gs ≠ [] → numbers first gs.flatten.length) (hg : ∀ g, g ∈ gs → GoodG g) (hs : Spoilt data bad (lay sm first gs)) : Fair sm data bad first gs := by
  intro i h1 h2 a rs hd
  rcases hs i h1 h2 with ⟨h3, h4⟩ | h4
  · rw [lay_length sm gs first hg] at h3
    have hi : i < gs.length := by omega
    have hgi : gs[i]? = some gs[i] := List.getElem?_eq_getElem hi
    have hd' := decode_at sm hsm hn hg hgi
    rw [h4, hd'] at hd
    cases hd
    exact ⟨hgi, rfl⟩
  · rw [h4, decode_zeros] at hd
    cases hd
theorem sure_of (hsm : ∀ b, sm b < 4294967296) {data : Bytes} {bad : List Int} {first : Nat} {gs : List (List Bytes)} (hn : gs ≠ [] → numbers first gs.flatten.length) (hg : ∀ g, g ∈ gs → GoodG g) {s : Nat} (hsl : s ≤ gs.length)
    (h : ∀ i, i < s → (i + 1) * 512 ≤ data.length ∧ ¬ (i : Int) ∈ bad ∧ sector data i = sector (lay sm first gs) i) : Sure sm data bad first gs s := by
  intro i hi
  obtain ⟨h1, h2, h3⟩ := h i hi
  have hgi : gs[i]? = some gs[i] := List.getElem?_eq_getElem (by omega)
  exact ⟨h1, h2, gs[i], hgi, by rw [h3]; exact decode_at sm hsm hn hg hgi⟩
/-- What is found: the records of the first m blocks, and m is at least the number of the safe ones. -/
theorem scan_spoilt (hsm : ∀ b, sm b < 4294967296) {data : Bytes} {bad : List Int} {first : Nat} {gs : List (List Bytes)} (hn : gs ≠ [] → numbers first gs.flatten.length) (hg : ∀ g, g ∈ gs → GoodG g) (hs : Spoilt data bad (lay sm first gs)) {s : Nat} (hsl : s ≤ gs.length)
    (h : ∀ i, i < s → (i + 1) * 512 ≤ data.length ∧ ¬ (i : Int) ∈ bad ∧ sector data i = sector (lay sm first gs) i) (fuel : Nat) (hf : s ≤ fuel) : ∃ m, s ≤ m ∧ m ≤ gs.length ∧ scan sm data bad fuel 0 first = ((gs.take m).flatten, m) := by
  obtain ⟨m, m1, m2, m3⟩ := scan_fair sm (fair_of sm hsm hn hg hs) (sure_of sm hsm hn hg hsl h) fuel 0 (by omega)
  refine ⟨m, by omega, by omega, ?_⟩
  have e : numAt first gs 0 = first := by unfold numAt; simp
  rw [e, List.drop_zero] at m3
  exact m3
end
end Go.Proofs.YtpckkdjdjkjapaaGreatDoor.Sg


/- What a loss of power leaves of a file of whole sectors, as Sp4 says it. -/
namespace Go.Proofs.YtpckkdjdjkjapaaGreatDoor.Sg
open Go.Proofs.YtpckkdjdjkjapaaGreatDoor.Dm
set_option linter.unusedVariables false
theorem sector_map {g : Nat → Int} {L i : Nat} (h : (i + 1) * 512 ≤ L) : sector ((List.range L).map g) i = (List.range 512).map fun j => g (i * 512 + j) := by
  refine eq_range ?_ fun j hj => ?_
  · unfold sector
    simp
    omega
  · unfold sector
    rw [List.getElem?_take_of_lt hj, List.getElem?_drop, range_get (by omega)]
theorem map_getD (l : List Int) : l = (List.range l.length).map fun i => l.getD i 0 :=
  eq_range rfl fun i hi => by rw [List.getElem?_eq_getElem hi, List.getD_eq_getElem?_getD, List.getElem?_eq_getElem hi]; rfl
theorem sector_getD {l : List Int} {i : Nat} (h : (i + 1) * 512 ≤ l.length) : sector l i = (List.range 512).map fun j => l.getD (i * 512 + j) 0 := by
  conv => lhs; rw [map_getD l]
  exact sector_map h
theorem longTo_top (n : Nat) : ∀ (l : List (Nat × Int)) (L : Nat), L ≤ n → longTo n l L ≤ n
  | [], L, h => h
  | p :: l, L, h => by
    unfold longTo
    refine longTo_top n l _ ?_
    split
    · exact h
    · omega
theorem longTo_low (n : Nat) : ∀ (l : List (Nat × Int)) (L : Nat), L ≤ longTo n l L
  | [], L => Nat.le_refl _
  | p :: l, L => by
    unfold longTo
    refine Nat.le_trans ?_ (longTo_low n l _)
    split
    · exact Nat.le_refl _
    · omega
theorem getD_append_left {a b : List Int} {k : Nat} (h : k < a.length) : (a ++ b).getD k 0 = a.getD k 0 := by
  rw [List.getD_eq_getElem?_getD, List.getD_eq_getElem?_getD, List.getElem?_append_left h]
theorem mem_numbers {b : Nat → Bool} {m i : Nat} : (i : Int) ∈ Dm.numbers b m ↔ i < m ∧ b i = true := by
  unfold Dm.numbers
  rw [List.mem_map]
  constructor
  · rintro ⟨a, ha, e⟩
    have : a = i := by exact_mod_cast e
    subst this
    have := List.mem_filter.1 ha
    exact ⟨List.mem_range.1 this.1, this.2⟩
  · rintro ⟨h1, h2⟩
    exact ⟨i, List.mem_filter.2 ⟨List.mem_range.2 h1, h2⟩, rfl⟩
section
variable {f : FileS} {s : Nat} (H : Half f s) (fates : List Int)
include H
theorem half_fate (k : Nat) (hk : k < s) : fateOf ((waitList f).zip fates) k = 0 := by
  refine fateOf_none fun hm => ?_
  obtain ⟨p, hp, rfl⟩ := List.mem_map.1 hm
  have h2 : p.1 ∈ waitList f := zip_mem hp
  have := H.waits _ (waitList_mem.1 h2).2
  omega
/-- What is left. -/
theorem half_spoilt : Spoilt (f.fated fates).data (Dm.numbers (f.fated fates).bad (sectors (f.fated fates).data.length)) f.seen := by
  obtain ⟨h1, h2⟩ := fated_eq f (half_le H) fates
  have hl : (f.fated fates).data.length = longTo f.seen.length ((waitList f).zip fates) f.safe.length := by rw [h1]; simp
  have ht := longTo_top f.seen.length ((waitList f).zip fates) f.safe.length (half_le H)
  intro i hi hb
  have hb' : (f.fated fates).bad i = false := by
    rw [mem_numbers] at hb
    cases he : (f.fated fates).bad i with
    | false => rfl
    | true => exact absurd ⟨by unfold sectors; omega, he⟩ hb
  rw [h2 i, H.bad i] at hb'
  rw [hl] at hi
  have hs : (i + 1) * 512 ≤ f.seen.length := by omega
  rw [h1, sector_map hi]
  have hq : ∀ j, j < 512 → (i * 512 + j) / 512 = i := fun j hj => by omega
  by_cases h0 : fateOf ((waitList f).zip fates) i = 0
  · rcases Nat.lt_or_ge i s with his | his
    · refine Or.inl ⟨hs, ?_⟩
      rw [sector_getD hs]
      refine List.map_congr_left fun j hj => ?_
      have hj := List.mem_range.1 hj
      unfold Dm.byteOf
      rw [hq j hj, if_pos h0]
      obtain ⟨t, ht'⟩ := H.front
      have h3 := H.safe
      rw [ht', getD_append_left (by omega)]
    · refine Or.inr ?_
      unfold zeros
      rw [List.eq_replicate_iff]
      refine ⟨by simp, fun b hb1 => ?_⟩
      obtain ⟨j, hj, rfl⟩ := List.mem_map.1 hb1
      have hj := List.mem_range.1 hj
      unfold Dm.byteOf
      rw [hq j hj, if_pos h0]
      have h3 := H.safe
      rw [List.getD_eq_getElem?_getD, List.getElem?_eq_none (by omega)]
      rfl
  · rw [if_pos h0] at hb'
    have h1' : fateOf ((waitList f).zip fates) i = 1 := by simpa using hb'
    refine Or.inl ⟨hs, ?_⟩
    rw [sector_getD hs]
    refine List.map_congr_left fun j hj => ?_
    have hj := List.mem_range.1 hj
    unfold Dm.byteOf
    rw [hq j hj, if_neg h0, if_pos h1']
theorem half_sure (i : Nat) (hi : i < s) : (i + 1) * 512 ≤ (f.fated fates).data.length ∧ ¬ (i : Int) ∈ Dm.numbers (f.fated fates).bad (sectors (f.fated fates).data.length) ∧ sector (f.fated fates).data i = sector f.seen i := by
  obtain ⟨h1, h2⟩ := fated_eq f (half_le H) fates
  have hl : (f.fated fates).data.length = longTo f.seen.length ((waitList f).zip fates) f.safe.length := by rw [h1]; simp
  have hlo := longTo_low f.seen.length ((waitList f).zip fates) f.safe.length
  have h3 := H.safe
  have hle := half_le H
  have h0 := half_fate H fates i hi
  have hi' : (i + 1) * 512 ≤ longTo f.seen.length ((waitList f).zip fates) f.safe.length := by omega
  have hq : ∀ j, j < 512 → (i * 512 + j) / 512 = i := fun j hj => by omega
  refine ⟨by omega, ?_, ?_⟩
  · rw [mem_numbers]
    rintro ⟨_, h⟩
    rw [h2 i, H.bad i] at h
    simp [h0] at h
  · rw [h1, sector_map hi', sector_getD (by omega)]
    refine List.map_congr_left fun j hj => ?_
    have hj := List.mem_range.1 hj
    unfold Dm.byteOf
    rw [hq j hj, if_pos h0]
    obtain ⟨t, ht'⟩ := H.front
    rw [ht', getD_append_left (by omega)]
end
end Go.Proofs.YtpckkdjdjkjapaaGreatDoor.Sg


/- How the file of a segment goes on: what is appended and made safe; what a loss of power leaves of it. -/
namespace Go.Proofs.YtpckkdjdjkjapaaGreatDoor.Sg
open Go.Proofs.YtpckkdjdjkjapaaGreatDoor.Dm
set_option linter.unusedVariables false
theorem half_new : Half FileS.new 0 := ⟨⟨[], rfl⟩, rfl, fun _ => rfl, fun _ => rfl, fun _ h => by cases h⟩
/-- Behind a piece of an append's bytes: what is spoilt is read against all of them. -/
theorem spoilt_prefix {data : Bytes} {bad : List Int} {a b : Bytes} (h : Spoilt data bad a) : Spoilt data bad (a ++ b) := by
  intro i h1 h2
  rcases h i h1 h2 with ⟨h3, h4⟩ | h4
  · refine Or.inl ⟨by rw [List.length_append]; omega, ?_⟩
    rw [h4, sector_getD h3, sector_getD (by rw [List.length_append]; omega)]
    refine List.map_congr_left fun j hj => ?_
    have hj := List.mem_range.1 hj
    rw [getD_append_left (by omega)]
  · exact Or.inr h4
theorem sector_prefix {a b : Bytes} {i : Nat} (h : (i + 1) * 512 ≤ a.length) : sector (a ++ b) i = sector a i := by
  rw [sector_getD h, sector_getD (by rw [List.length_append]; omega)]
  refine List.map_congr_left fun j hj => ?_
  have hj := List.mem_range.1 hj
  rw [getD_append_left (by omega)]
section
variable (sm : Bytes → Nat)
/-- What Open finds behind a loss of power: the records of the first m blocks of all that were handed to appends, the safe ones among them. -/
theorem scan_half (hsm : ∀ b, sm b < 4294967296) {f : FileS} {s : Nat} (H : Half f s) (fates : List Int) {first : Nat} {gs : List (List Bytes)} (hn : gs ≠ [] → Sg.numbers first gs.flatten.length) (hg : ∀ g, g ∈ gs → GoodG g) (hseen : ∃ t, lay sm first gs = f.seen ++ t) (fuel : Nat) (hf : s ≤ fuel) :
    ∃ m, s ≤ m ∧ m ≤ gs.length ∧ scan sm (f.fated fates).data (Dm.numbers (f.fated fates).bad (sectors (f.fated fates).data.length)) fuel 0 first = ((gs.take m).flatten, m) := by
  obtain ⟨t, ht⟩ := hseen
  have hle := half_le H
  have hs := H.safe
  have hl := congrArg List.length ht
  rw [lay_length sm gs first hg, List.length_append] at hl
  refine scan_spoilt sm hsm hn hg (by rw [ht]; exact spoilt_prefix (half_spoilt H fates)) (by omega) (fun i hi => ?_) fuel hf
  obtain ⟨h1, h2, h3⟩ := half_sure H fates i hi
  exact ⟨h1, h2, by rw [h3, ht, sector_prefix (by omega)]⟩
/-- The records of some first blocks are a front of the records, and not shorter than those of fewer blocks. -/
theorem take_flatten_front (gs : List (List Bytes)) (m : Nat) : (gs.take m).flatten = gs.flatten.take (gs.take m).flatten.length := by
  conv => rhs; rw [← List.take_append_drop m gs, List.flatten_append]
  rw [List.take_append_drop, List.take_left]
theorem take_flatten_le (gs : List (List Bytes)) {s m : Nat} (h : s ≤ m) : (gs.take s).flatten.length ≤ (gs.take m).flatten.length := by
  have e : gs.take m = gs.take s ++ (gs.take m).drop s := by
    conv => lhs; rw [← List.take_append_drop s (gs.take m)]
    rw [List.take_take, Nat.min_eq_left h]
  rw [e, List.flatten_append, List.length_append]; omega
end
end Go.Proofs.YtpckkdjdjkjapaaGreatDoor.Sg


/- A disk of one file, and a segment over it, as plain data. -/
namespace Go.Proofs.YtpckkdjdjkjapaaGreatDoor.Dm
set_option linter.unusedVariables false
section
variable {nm : Name} {f : FileS} {D : Disk}
theorem One.seenLen (h : One nm f D) : D.seenLen nm = f.seen.length := by unfold Disk.seenLen; rw [h.find, h.files]; rfl
theorem One.truncQ (h : One nm f D) (hq : Quiet D) (k : Nat) (hk : k * 512 ≤ f.seen.length) : (D.truncate nm ((k * 512 : Nat) : Int)).1 = 0 ∧ One nm (f.trunc ((k * 512 : Nat) : Int)) (D.truncate nm ((k * 512 : Nat) : Int)).2 ∧ Quiet (D.truncate nm ((k * 512 : Nat) : Int)).2 ∧ (D.truncate nm ((k * 512 : Nat) : Int)).2.count = D.count + 1 := by
  have hr : D.refuseTrunc nm ((k * 512 : Nat) : Int) = 0 := by
    unfold Disk.refuseTrunc
    rw [if_neg (by rw [h.gone]; simp), if_neg (by rw [h.seenLen]; omega)]
  have e : D.truncate nm ((k * 512 : Nat) : Int) = (0, Disk.onFile nm (FileS.trunc ((k * 512 : Nat) : Int)) D.tick) := by unfold Disk.truncate; rw [hq.run, if_pos hr]
  rw [e]
  exact ⟨rfl, h.tick.onFile _, hq.ticked.onFile _ _, (onFile_off _ _ _).2.1⟩
end
/-- A disk of an image of one file. -/
theorem one_load {p : Plain} (hi : Img [p]) : (Disk.load [p]).read p.name = (0, p.data, p.bad) := by
  have hs := load_seen hi
  have e : (Disk.load [p]).seenImg = [plain p.name ⟨(loadFile p).seen, (loadFile p).badSeen⟩] := by
    unfold Disk.seenImg
    rw [if_neg (by simp [Disk.load, Disk.new])]
    unfold inOrder
    show ((List.mergeSort [(p.name, 0)] _).map _) = _
    rw [List.mergeSort_singleton]
    rfl
  rw [e] at hs
  have h1 : plain p.name ⟨(loadFile p).seen, (loadFile p).badSeen⟩ = p := by simpa using hs
  have hd : (loadFile p).seen = p.data := congrArg Plain.data h1
  have hb : numbers (loadFile p).badSeen (sectors (loadFile p).seen.length) = p.bad := congrArg Plain.bad h1
  unfold Disk.read
  rw [if_neg (by simp [Disk.load, Disk.new])]
  have hf : find (Disk.load [p]).now p.name = some 0 := by simp [Disk.load, named, Dm.find]
  rw [hf]
  simp only
  have hfi : (Disk.load [p]).file 0 = loadFile p := load_file rfl
  rw [hfi, hd, ← hb, hd]
end Go.Proofs.YtpckkdjdjkjapaaGreatDoor.Dm
namespace Go.Proofs.YtpckkdjdjkjapaaGreatDoor.Sg
open Go.Proofs.YtpckkdjdjkjapaaGreatDoor.Dm
set_option linter.unusedVariables false
end Go.Proofs.YtpckkdjdjkjapaaGreatDoor.Sg


/- What Open finds, as plain data: other bytes behind the blocks, a loss of power. -/
namespace Go.Proofs.YtpckkdjdjkjapaaGreatDoor.Sg
open Go.Proofs.YtpckkdjdjkjapaaGreatDoor.Dm
set_option linter.unusedVariables false
/-- Behind a loss of power. -/
theorem scanAll_half {f : FileS} {s : Nat} (H : Half f s) (fates : List Int) {first : Nat} {gs : List (List Bytes)} (hn : gs ≠ [] → Sg.numbers first gs.flatten.length) (hg : ∀ g, g ∈ gs → GoodG g) (hseen : ∃ t, lay crc first gs = f.seen ++ t) :
    ∃ m, s ≤ m ∧ m ≤ gs.length ∧ scanAll (f.fated fates).data (Dm.numbers (f.fated fates).bad (sectors (f.fated fates).data.length)) first = ((gs.take m).flatten, m) := by
  have h1 : s ≤ (f.fated fates).data.length / 512 + 1 := by
    rcases Nat.eq_zero_or_pos s with h | h
    · omega
    · have := (half_sure H fates (s - 1) (by omega)).1
      have e : (s - 1 + 1) = s := by omega
      rw [e] at this
      omega
  exact scan_half crc crc_lt H fates hn hg hseen _ h1
theorem Safe1.end_ {s : SegS} {first : Nat} {gs : List (List Bytes)} {f : FileS} {k : Nat} (h : Safe1 s first gs f k) : Safe2 first gs f k :=
  ⟨⟨[], by rw [List.append_nil]; exact h.over.seen.symm⟩, h.half, h.le, h.over.good, h.over.nums⟩
theorem Safe2.found {first : Nat} {gs : List (List Bytes)} {f : FileS} {k : Nat} (h : Safe2 first gs f k) (fates : List Int) :
    ∃ l n, scanAll (f.fated fates).data (Dm.numbers (f.fated fates).bad (sectors (f.fated fates).data.length)) first = (l, n) ∧ l = gs.flatten.take l.length ∧ (gs.take k).flatten.length ≤ l.length ∧ l.length ≤ gs.flatten.length := by
  obtain ⟨m, h1, h2, h3⟩ := scanAll_half h.half fates h.nums h.good h.seen
  refine ⟨_, m, h3, take_flatten_front gs m, take_flatten_le gs h1, ?_⟩
  have := take_flatten_le gs (s := m) (m := gs.length) h2
  rw [List.take_length] at this
  exact this
/-- SegmentCuts: behind the cut. -/
theorem cut_seen {f : FileS} {k : Nat} (h : k * 512 ≤ f.seen.length) : (f.trunc ((k * 512 : Nat) : Int)).seen.length = k * 512 := by
  show (f.seen.take _).length = _
  rw [Int.toNat_natCast, List.length_take]; omega
end Go.Proofs.YtpckkdjdjkjapaaGreatDoor.Sg


/- How much groups of records are; bytes of blocks. -/
namespace Go.Proofs.YtpckkdjdjkjapaaGreatDoor.Sg
open Go.Proofs.YtpckkdjdjkjapaaGreatDoor.Dm
set_option linter.unusedVariables false
theorem groupSum_take : ∀ (gs : List Group) (j : Nat), groupSum (gs.take j) ≤ groupSum gs
  | [], j => by simp
  | g :: gs, 0 => by simp [groupSum]
  | g :: gs, j + 1 => by
    rw [List.take_succ_cons, groupSum_cons, groupSum_cons]
    have := groupSum_take gs j
    omega
end Go.Proofs.YtpckkdjdjkjapaaGreatDoor.Sg


/- delete while a map is gone through. -/
namespace Go.Proofs.YtpckkdjdjkjapaaGreatDoor.Mp
open Go.RowKit Go.ChangeMaps
set_option linter.unusedVariables false
set_option linter.unusedSimpArgs false
set_option linter.unusedSectionVars false
section
variable {α : Type} [DecidableEq α] {enc : α → Value} {P : Program} {k e t : TypeId} (w : World) {m : Nat} {l : List (α × Value)}
  {ops : Array Oper} {rest : List Oper} {o : Oper} {a : Act} {Q : Exit → Act → World → Prop}
theorem wpl_delete_iter (hg : o.guard = none) (mo x : Operand) {t2 : TypeId} (hop : o.op = Op.call { callee := Callee.builtin Builtin.delete, args := #[mo, x], argTypes := #[t, t2] }) (K : KeyK P k enc) (ht : P.underlying t = some (.map k e))
    (y : α) (hm : a.eval mo = .map (some m)) (hx : a.eval x = enc y) {it : Nat} {todo : List (α × Value)} (h : IterAt enc w it m l todo) (hy : y ∉ todo.map (·.1))
    (hK : ∀ w', IterAt enc w' it m (delL l y) todo → w.grownBy w' (some m) → w'.heap.size = w.heap.size → wpList P ops Q rest (a.put o.dst (.tuple #[])) w') : wpList P ops Q (o :: rest) a w := by
  refine wpList_plain hg fun K' hK' => ?_
  obtain ⟨w', hrun, h1, h2, h3⟩ := h.delete K ht y hy o.type (t2 := t2)
  unfold Oper.wp
  simp [execOp, hop, resolve, invoke, builtin, hm, hx, hrun, Result.andThen]
  exact hK' _ _ (hK w' h1 h2 h3)
end
end Go.Proofs.YtpckkdjdjkjapaaGreatDoor.Mp


/- A disk with its invariants and its measures: what each call leaves of them. -/
namespace Go.Proofs.YtpckkdjdjkjapaaGreatDoor.Dm
set_option linter.unusedVariables false
theorem Sz.opTruncate {n m : Nat} {D : Disk} (h : Sz n m D) (nm : Name) (k : Int) : Sz (n + 1) m (D.truncate nm k).2 :=
  h.run (Nat.le_refl _) (fun D1 hD => hD.onFile (Nat.le_refl _) fun f hf => by simp only [FileS.trunc, List.length_take]; omega) (fun p k D1 hp => by cases hp)
end Go.Proofs.YtpckkdjdjkjapaaGreatDoor.Dm
namespace Go.Proofs.YtpckkdjdjkjapaaGreatDoor.Dw
open Go.RowKit Go.ChangeMaps Go.Proofs.YtpckkdjdjkjapaaGreatDoor.Mp Go.Proofs.YtpckkdjdjkjapaaGreatDoor.Dm Go.Proofs.YtpckkdjdjkjapaaGreatDoor.Da
set_option linter.unusedVariables false
set_option linter.unusedSimpArgs false
set_option linter.unusedSectionVars false
section
variable {B : Nat} {w : World} {b : Nat} {lab : Nat → Option Lb} {eb : Nat → Addr} {L : List Err} {n m : Nat} {D : Disk}
end
end Go.Proofs.YtpckkdjdjkjapaaGreatDoor.Dw


/- One file of a disk in memory turns while an image is loaded; bytes cloned from anywhere. -/
namespace Go.Proofs.YtpckkdjdjkjapaaGreatDoor.Da
open Go.RowKit Go.ChangeMaps Go.Proofs.YtpckkdjdjkjapaaGreatDoor.Mp Go.Proofs.YtpckkdjdjkjapaaGreatDoor.Dm Go.Proofs.YtpckkdjdjkjapaaGreatDoor.Dw
set_option linter.unusedVariables false
set_option linter.unusedSimpArgs false
set_option linter.unusedSectionVars false
section
variable {B : Nat} {w w' : World} {b : Nat} {A : Adr} {lab lab' : Nat → Option Lb} {D : Disk}
theorem withFile_at (A : Adr) (i : Nat) (a : FAdr) : (A.withFile i a).fa i = a := by unfold Adr.withFile; simp
theorem withFile_self (A : Adr) (i : Nat) : A.withFile i (A.fa i) = A := by
  unfold Adr.withFile
  have : (fun j => if j = i then A.fa i else A.fa j) = A.fa := funext fun j => by by_cases h : j = i <;> simp [h]
  rw [this]
/-- setFile, the addresses told. -/
theorem DiskAt.fileX (h : DiskAt B w b A lab D) {i : Nat} {f : FileS} (hf : D.files[i]? = some f) (g : FileS → FileS) {a' : FAdr} (hfile : FileAt w' lab' i a' (g f)) (hfb : a'.fb = (A.fa i).fb)
    (hk : ∀ k p, lab k = some p → ¬ isOf i p → w'.heap[k]? = w.heap[k]? ∧ lab' k = some p) (hn : ∀ k p, lab' k = some p → B ≤ k ∧ k < w'.heap.size) :
    DiskAt B w' b (A.withFile i a') lab' (D.modify i g) := by
  have hfp : ∀ j, fptr (A.withFile i a') j = fptr A j := by
    intro j
    unfold fptr Adr.withFile
    simp only []
    by_cases hj : j = i
    · rw [if_pos hj, hj, hfb]
    · rw [if_neg hj]
  have hlen : (D.modify i g).files.length = D.files.length := by unfold Disk.modify; simp
  refine ⟨?_, (hk _ _ h.lb (by simp [isOf])).2, ?_, (hk _ _ h.lnm (by simp [isOf])).2, ?_, (hk _ _ h.lsm (by simp [isOf])).2, ?_, ?_, ?_, hn⟩
  · rw [(hk _ _ h.lb (by simp [isOf])).1, h.blk]
    unfold mainCells
    rw [hlen]; rfl
  · exact (h.names.same (hk _ _ h.lnm (by simp [isOf])).1).congr (fun p _ => hfp _)
  · exact (h.sure.same (hk _ _ h.lsm (by simp [isOf])).1).congr (fun p _ => hfp _)
  · have := (h.waiting.same (w' := w') (fun k hl => (hk k _ hl (by simp [isOf])).1)).relab (lab' := lab') (fun k hl => (hk k _ hl (by simp [isOf])).2)
    rw [← chg_congr (A' := A.withFile i a') (fun c _ p _ => hfp _)] at this
    exact this
  · exact (h.fails.same (w' := w') (fun k hl => (hk k _ hl (by simp [isOf])).1)).relab (fun k hl => (hk k _ hl (by simp [isOf])).2)
  · intro j fj hj
    by_cases e : j = i
    · subst e
      have : fj = g f := by
        unfold Disk.modify at hj
        simp only [List.getElem?_modify_eq, hf, Option.map_some] at hj
        exact (Option.some.inj hj).symm
      subst this
      rw [withFile_at]
      exact hfile
    · have hj' : D.files[j]? = some fj := by
        unfold Disk.modify at hj
        simpa [List.getElem?_modify, Ne.symm e] using hj
      have hno : ∀ p, (p = .file j ∨ p = .sd j ∨ p = .sb j ∨ p = .ad j ∨ p = .ab j ∨ p = .wb j) → ¬ isOf i p := by
        rintro p (rfl | rfl | rfl | rfl | rfl | rfl) <;> simp [isOf, e]
      have h1 := (h.files j fj hj').same (w' := w') (fun k p hl hp => (hk k p hl (hno p hp)).1)
      have h2 := h1.relab (lab' := lab') (fun k p hl hp => (hk k p hl (hno p hp)).2)
      have e : (A.withFile i a').fa j = A.fa j := by unfold Adr.withFile; simp [e]
      rw [e]
      exact h2
/-- A file's bytes as seen are another row, in new memory. -/
theorem DiskAt.setSeen (h : DiskAt B w b A lab D) {i : Nat} {f : FileS} (hf : D.files[i]? = some f) {w1 : World} (hf1 : Frm (fun _ => False) w w1) {v' : Value} {xs : List Int} (hrow : w1.ownsRow w.heap.size 5 1 v' xs.length (u8s xs)) :
    DiskAt B (w1.setCell ⟨(A.fa i).fb, 1, none⟩ v') b (A.withFile i { A.fa i with sd := v' }) (moveLab lab (.sd i) v'.ownBlock) (D.modify i fun f => { f with seen := xs }) ∧ Frm (Ft lab) w (w1.setCell ⟨(A.fa i).fb, 1, none⟩ v') := by
  have F := h.files i f hf
  have hv : ∀ g, v'.ownBlock = some g → w.heap.size ≤ g ∧ g < w1.heap.size := fun g hg => own_low hrow hg
  have hlow : ∀ j, v'.ownBlock = some j → lab j = some (.sd i) ∨ lab j = none := by
    intro j hj
    right
    rcases hl : lab j with _ | p
    · rfl
    · have := (h.base j p hl).2
      have := (hv j hj).1
      omega
  have hml : ∀ k q, lab k = some q → q ≠ .sd i → moveLab lab (.sd i) v'.ownBlock k = some q := fun k q hl hq => moveLab_other hq hl hlow
  have fblt := (h.base _ _ F.lfb).2
  have hk1 : ∀ k q, lab k = some q → q ≠ .file i → (w1.setCell ⟨(A.fa i).fb, 1, none⟩ v').heap[k]? = w.heap[k]? := fun k q hl hq => by
    rw [blk_set_ne (ne_of_lab hl F.lfb hq)]; exact hf1.block k (h.base k q hl).2 id
  refine ⟨h.fileX hf (fun f => { f with seen := xs }) ⟨?_, hml _ _ F.lfb (by simp), ?_, ?_, F.badSeen.same (hk1 _ _ F.lsb (by simp)), hml _ _ F.lsb (by simp), F.badSafe.same (hk1 _ _ F.lab_ (by simp)), hml _ _ F.lab_ (by simp), F.waits.same (hk1 _ _ F.lwb (by simp)), hml _ _ F.lwb (by simp)⟩ rfl ?_ ?_, ?_⟩
  · rw [blk_set ((hf1.block _ fblt id).trans F.blk)]; rfl
  · refine ⟨ownsRow.low (ownsRow.same hrow fun g hg => blk_set_ne (by have := (hv g hg).1; omega)), fun g hg => by unfold moveLab; rw [if_pos hg.symm]⟩
  · exact (F.safe.same (fun k hl => hk1 k _ hl (by simp))).relab (fun k hl => hml k _ hl (by simp))
  · intro k p hl hp
    exact ⟨hk1 k p hl (by rintro rfl; exact hp (by simp [isOf])), hml k p hl (by rintro rfl; exact hp (by simp [isOf]))⟩
  · intro k p hl
    have hB : B ≤ w.heap.size := Nat.le_of_lt (Nat.lt_of_le_of_lt (h.base b _ h.lb).1 (h.base b _ h.lb).2)
    have hsz := hf1.size
    simp only [World.size_setCell]
    unfold moveLab at hl
    by_cases e : some k = v'.ownBlock
    · have := hv k e.symm
      omega
    · rw [if_neg e] at hl
      by_cases e2 : lab k = some (.sd i)
      · rw [if_pos e2] at hl; cases hl
      · rw [if_neg e2] at hl
        have := h.base k p hl
        omega
  · exact Frm.setCell (hf1.mono (fun _ _ h => h.elim)) _ _ (fun _ => by unfold Ft; rw [F.lfb]; rfl)
/-- .. the same row holds other bytes. -/
theorem DiskAt.turnSeen (h : DiskAt B w b A lab D) {i : Nat} {f : FileS} (hf : D.files[i]? = some f) {w1 : World} (hg : w.grownBy w1 (A.fa i).sd.ownBlock) {xs : List Int} (hrow : w1.ownsRow 0 5 1 (A.fa i).sd xs.length (u8s xs)) :
    DiskAt B w1 b A lab (D.modify i fun f => { f with seen := xs }) ∧ Frm (Ft lab) w w1 := by
  have F := h.files i f hf
  have hk : ∀ k p, lab k = some p → p ≠ .sd i → w1.heap[k]? = w.heap[k]? := fun k p hl hp => hg.block k (h.base k p hl).2 (by
    intro e
    have := F.seen.lab k e.symm
    rw [hl] at this; exact hp (Option.some.inj this))
  refine ⟨?_, (Frm.of_grown hg).mono fun k _ e => ?_⟩
  · have := h.fileX hf (fun f => { f with seen := xs }) (w' := w1) (lab' := lab) (a' := A.fa i) ⟨(hk _ _ F.lfb (by simp)).trans F.blk, F.lfb, ⟨hrow, F.seen.lab⟩, F.safe.same (fun k hl => hk k _ hl (by simp)), F.badSeen.same (hk _ _ F.lsb (by simp)), F.lsb, F.badSafe.same (hk _ _ F.lab_ (by simp)), F.lab_, F.waits.same (hk _ _ F.lwb (by simp)), F.lwb⟩ rfl
      (fun k p hl hp => ⟨hk k p hl (by rintro rfl; exact hp (by simp [isOf])), hl⟩) (fun k p hl => ⟨(h.base k p hl).1, Nat.lt_of_lt_of_le (h.base k p hl).2 hg.size⟩)
    rwa [withFile_self] at this
  · unfold Ft; rw [F.seen.lab k e.symm]; rfl
/-- A file's set of bad sectors holds others. -/
theorem DiskAt.turnBad (h : DiskAt B w b A lab D) {i : Nat} {f : FileS} (hf : D.files[i]? = some f) {w1 : World} (hg : w.grownBy w1 (some (A.fa i).sb)) {S : Nat → Bool} (hS : SetAt w1 (A.fa i).sb S) :
    DiskAt B w1 b A lab (D.modify i fun f => { f with badSeen := S }) ∧ Frm (Ft lab) w w1 := by
  have F := h.files i f hf
  have hk : ∀ k p, lab k = some p → p ≠ .sb i → w1.heap[k]? = w.heap[k]? := fun k p hl hp => hg.block k (h.base k p hl).2 (fun e => ne_of_lab hl F.lsb hp (Option.some.inj e))
  refine ⟨?_, (Frm.of_grown hg).mono fun k _ e => ?_⟩
  · have := h.fileX hf (fun f => { f with badSeen := S }) (w' := w1) (lab' := lab) (a' := A.fa i) ⟨(hk _ _ F.lfb (by simp)).trans F.blk, F.lfb, F.seen.same (fun k hl => hk k _ hl (by simp)), F.safe.same (fun k hl => hk k _ hl (by simp)), hS, F.lsb, F.badSafe.same (hk _ _ F.lab_ (by simp)), F.lab_, F.waits.same (hk _ _ F.lwb (by simp)), F.lwb⟩ rfl
      (fun k p hl hp => ⟨hk k p hl (by rintro rfl; exact hp (by simp [isOf])), hl⟩) (fun k p hl => ⟨(h.base k p hl).1, Nat.lt_of_lt_of_le (h.base k p hl).2 hg.size⟩)
    rwa [withFile_self] at this
  · unfold Ft; rw [Option.some.inj e, F.lsb]; rfl
/-- What is safe is as what is seen, in new memory. -/
theorem DiskAt.setSafe (h : DiskAt B w b A lab D) {i : Nat} {f : FileS} (hf : D.files[i]? = some f) {w1 : World} (hb : Below w.heap.size w w1) {v' : Value} {m' : Nat} (hrow : w1.ownsRow w.heap.size 5 1 v' f.seen.length (u8s f.seen)) (hS : SetAt w1 m' f.badSeen)
    (hm1 : w.heap.size ≤ m') (hm2 : m' < w1.heap.size) (hne : v'.ownBlock ≠ some m') :
    DiskAt B ((w1.setCell ⟨(A.fa i).fb, 3, none⟩ v').setCell ⟨(A.fa i).fb, 4, none⟩ (.map (some m'))) b (A.withFile i { A.fa i with ad := v', ab := m' }) (syncLab lab i v'.ownBlock m') (D.modify i fun f => { f with safe := f.seen, badSafe := f.badSeen }) ∧
      Frm (Ft lab) w ((w1.setCell ⟨(A.fa i).fb, 3, none⟩ v').setCell ⟨(A.fa i).fb, 4, none⟩ (.map (some m'))) := by
  have F := h.files i f hf
  have hsz : w.heap.size ≤ w1.heap.size := hb.size
  have fblt : (A.fa i).fb < w.heap.size := (h.base _ _ F.lfb).2
  have hnew : ∀ k, w.heap.size ≤ k → ((w1.setCell ⟨(A.fa i).fb, 3, none⟩ v').setCell ⟨(A.fa i).fb, 4, none⟩ (.map (some m'))).heap[k]? = w1.heap[k]? := by
    intro k h1
    rw [blk_set_ne (by omega), blk_set_ne (by omega)]
  have hold : ∀ k p, lab k = some p → p ≠ .file i → ((w1.setCell ⟨(A.fa i).fb, 3, none⟩ v').setCell ⟨(A.fa i).fb, 4, none⟩ (.map (some m'))).heap[k]? = w.heap[k]? := by
    intro k p hl h1
    have n1 : k ≠ (A.fa i).fb := ne_of_lab hl F.lfb h1
    rw [blk_set_ne n1, blk_set_ne n1, hb.block k (h.base k p hl).2]
  have hgnew : ∀ g, v'.ownBlock = some g → w.heap.size ≤ g ∧ g < w1.heap.size := fun g e => ownsRow.at hrow e
  have hlabOld : ∀ k p, lab k = some p → p ≠ .ad i → p ≠ .ab i → syncLab lab i v'.ownBlock m' k = some p := by
    intro k p hl h1 h2
    have hlt := (h.base k p hl).2
    unfold syncLab
    rw [if_neg (by intro e; have := (hgnew k e.symm).1; omega), if_neg (by omega), if_neg (by rw [hl]; simp [h1, h2]), hl]
  refine ⟨h.fileX hf (fun f => { f with safe := f.seen, badSafe := f.badSeen }) (a' := { A.fa i with ad := v', ab := m' }) (lab' := syncLab lab i v'.ownBlock m') ⟨?_, hlabOld _ _ F.lfb (by simp) (by simp), ?_, ?_, F.badSeen.same (hold _ _ F.lsb (by simp)), hlabOld _ _ F.lsb (by simp) (by simp), hS.same (hnew _ hm1), ?_, F.waits.same (hold _ _ F.lwb (by simp)), hlabOld _ _ F.lwb (by simp) (by simp)⟩ rfl ?_ ?_, ?_⟩
  · have : w1.heap[(A.fa i).fb]? = some _ := (hb.block _ fblt).trans F.blk
    rw [blk_set (blk_set this)]
    rfl
  · exact (F.seen.same (fun k hl => hold k _ hl (by simp))).relab (fun k hl => hlabOld k _ hl (by simp) (by simp))
  · refine ⟨ownsRow.low (ownsRow.same hrow (fun g e => hnew g (hgnew g e).1)), fun g e => ?_⟩
    unfold syncLab; rw [if_pos e.symm]
  · show syncLab lab i v'.ownBlock m' m' = _
    unfold syncLab
    rw [if_neg (fun e => hne e.symm), if_pos rfl]
  · intro k p hl hp
    have hno : p ≠ .file i ∧ p ≠ .ad i ∧ p ≠ .ab i := by
      refine ⟨?_, ?_, ?_⟩ <;> (rintro rfl; exact hp (by simp [isOf]))
    exact ⟨hold k p hl hno.1, hlabOld k p hl hno.2.1 hno.2.2⟩
  · intro k p hl
    have hB : B ≤ w.heap.size := Nat.le_of_lt (Nat.lt_of_le_of_lt (h.base b _ h.lb).1 (h.base b _ h.lb).2)
    simp only [World.size_setCell]
    unfold syncLab at hl
    by_cases e1 : some k = v'.ownBlock
    · have := hgnew k e1.symm; omega
    · rw [if_neg e1] at hl
      by_cases e2 : k = m'
      · omega
      · rw [if_neg e2] at hl
        by_cases e3 : lab k = some (.ad i) ∨ lab k = some (.ab i)
        · rw [if_pos e3] at hl; cases hl
        · rw [if_neg e3] at hl
          have := h.base k p hl; omega
  · exact ((Frm.of_below hb _).setCell _ _ (fun _ => by unfold Ft; rw [F.lfb]; rfl)).setCell _ _ (fun _ => by unfold Ft; rw [F.lfb]; rfl)
/-- The map of the safe names has turned. -/
theorem DiskAt.setSure (h : DiskAt B w b A lab D) {l : List (Name × Nat)} (hm : NamesAt w' A.sm l A) (hg : w.grownBy w' (some A.sm)) :
    DiskAt B w' b A lab { D with sure := l } ∧ Frm (Ft lab) w w' := by
  have hk : ∀ k p, lab k = some p → p ≠ .sure → w'.heap[k]? = w.heap[k]? := fun k p hl hp => hg.block k (h.base k p hl).2 (by
    intro e; exact ne_of_lab hl h.lsm hp (Option.some.inj e))
  refine ⟨⟨?_, h.lb, h.names.same (hk _ _ h.lnm (by simp)), h.lnm, hm, h.lsm, h.waiting.same (fun k hl => hk k _ hl (by simp)), h.fails.same (fun k hl => hk k _ hl (by simp)), ?_, ?_⟩, ?_⟩
  · rw [hk _ _ h.lb (by simp)]; exact h.blk
  · intro i f hf
    exact (h.files i f hf).same (fun k p hl hp => hk k p hl (by rcases hp with rfl | rfl | rfl | rfl | rfl | rfl <;> simp))
  · exact fun k p hl => ⟨(h.base k p hl).1, Nat.lt_of_lt_of_le (h.base k p hl).2 hg.size⟩
  · exact (Frm.of_grown hg).mono (fun k _ e => by unfold Ft; rw [Option.some.inj e, h.lsm]; rfl)
theorem DiskAt.lower (h : DiskAt B w b A lab D) {B' : Nat} (hB : B' ≤ B) : DiskAt B' w b A lab D :=
  ⟨h.blk, h.lb, h.names, h.lnm, h.sure, h.lsm, h.waiting, h.fails, h.files, fun k p hl => ⟨Nat.le_trans hB (h.base k p hl).1, (h.base k p hl).2⟩⟩
end
end Go.Proofs.YtpckkdjdjkjapaaGreatDoor.Da
namespace Go.Proofs.YtpckkdjdjkjapaaGreatDoor.Dw
open Go.RowKit Go.ChangeMaps Go.Proofs.YtpckkdjdjkjapaaGreatDoor.Mp Go.Proofs.YtpckkdjdjkjapaaGreatDoor.Dm Go.Proofs.YtpckkdjdjkjapaaGreatDoor.Da Go.Shelf
set_option linter.unusedVariables false
set_option linter.unusedSimpArgs false
set_option linter.unusedSectionVars false
theorem u8_one (xs : List Int) : ∀ u ∈ u8s xs, u.oneCell' = true := by
  intro u hu
  obtain ⟨x, _, rfl⟩ := List.mem_map.1 hu
  rfl
set_option maxHeartbeats 1000000 in
set_option maxRecDepth 100000 in
/-- A clone of bytes: new memory. -/
theorem cloneB_any (v : Value) (xs : List Int) (w : World) (hv : BytesAt w v xs) (hn : xs.length ≤ 140737488355328) :
    Calls Tryz.prog 54 #[v] w fun e w' => ∃ p c, e = .returned (.slice p xs.length c) ∧ w'.ownsRow w.heap.size 5 1 (.slice p xs.length c) xs.length (u8s xs) ∧ Frm (fun _ => False) w w' := by
  obtain ⟨p, c, rfl, hc⟩ := hv
  cases p with
  | none =>
    have h0 : xs = [] := by
      cases xs with
      | nil => rfl
      | cons q l =>
        obtain ⟨a, ha, _⟩ := hc 0 _ rfl
        cases ha
    subst h0
    refine (AnyE.slices_Clone_nil cloneB_lays _ c w).mono ?_
    rintro e w' ⟨rfl, rfl⟩
    exact ⟨_, _, rfl, ⟨by simp [u8s], .inl ⟨rfl, rfl⟩⟩, Frm.refl _ _⟩
  | some a =>
    obtain ⟨i0, hi0, hz0, hz1, hz2⟩ := info_parts byteInfo
    have hmx : maxLen = 9223372036854775807 := by decide
    have HC : Hid (∀ j u, (u8s xs)[j]? = some u → w.cell? (a.add j) = some u) := fun j u hu => by
      obtain ⟨a', e, h⟩ := hc j u hu
      cases e; exact h
    have q22 : ∀ (w : World) (a : Option Addr) (n c n' c' : Nat), (binOp .eql 40 (.slice a n c) (.slice none n' c')).run Tryz.prog w = .ok (.bool a.isNone) w := fun w a n c n' c' => Lib.run_eql_slice_nil w _ _ a n c n' c' Tryz.underlying40
    clear hc
    go_enter Tryz.func54, Tryz.ntmps54
    go_wp2_with (at_builtin; refine wpList_append_own _ rfl _ _ 40 rfl w.heap.size 5 i0 _ 1 1 Tryz.underlying40 hi0 hz0 hz1 hz2 rfl (by omega) _ _ _ rfl (World.ownsRow_made w #[] 0 (Nat.le_refl _) (Nat.zero_le _) (by simp)) a xs.length c (u8s xs) rfl ?qc1 ?qc2 ?qc3 ?qc4 ?qc5 ?qc6 ?_)
    case qc1 => simp [u8s]
    case qc2 =>
      intro j u hj
      exact Lib.cell?_alloc_some _ (HC.out j u hj)
    case qc3 => exact u8_one xs
    case qc4 => rw [Nat.zero_add]; omega
    case qc5 => rw [Nat.zero_add]; omega
    case qc6 => simp
    intro v' w1 hown hgrow hnil
    have hsh : ∃ p c, v' = .slice p xs.length c := by
      rcases hown.2 with ⟨h1, h2⟩ | ⟨g, cap, cur, h1, _⟩
      · exact ⟨_, _, by rw [h1, show xs.length = 0 by omega]⟩
      · exact ⟨_, _, h1⟩
    obtain ⟨p', c', rfl⟩ := hsh
    go_wp2
    go_ret
    refine ⟨p', c', rfl, by simpa using hown, ?_⟩
    exact ((Frm.refl _ w).alloc _).grown hgrow (by intro k hk; simp [Value.ownBlock] at hk; omega)
set_option maxRecDepth 100000 in
/-- span, for greater files. -/
theorem span_big (k n fr T : Nat) (hk : k ≤ 8796093022208) (hn : n ≤ 140737488355328) (hfr : k * 512 = fr) (hT : min ((k + 1) * 512) n = T) (w : World) :
    Calls Tryz.prog 56 #[.int .i64 k, .int .i64 n] w fun e w' => e = .returned (.tuple #[.int .i64 fr, .int .i64 T]) ∧ w' = w := by
  have e1 : ((k * 512 : Nat) : Int) = (k : Int) * 512 := by omega
  have e2 : ((min ((k + 1) * 512) n : Nat) : Int) = min (((k : Int) + 1) * 512) (n : Int) := by omega
  rw [← hfr, ← hT]
  have E := Lib.hid (And.intro e1 e2)
  clear e1 e2 hfr hT
  go_enter Tryz.func56, Tryz.ntmps56
  go_wp2
  go_ret2
  exact ⟨by rw [E.out.1, E.out.2]; rfl, rfl⟩
end Go.Proofs.YtpckkdjdjkjapaaGreatDoor.Dw


/- The pure disk: loading an image, file by file. -/
namespace Go.Proofs.YtpckkdjdjkjapaaGreatDoor.Dm
set_option linter.unusedVariables false
theorem good_snoc {l : List Plain} {p : Plain} (h : Good l) (hn : good p.name = true) (ho : l = [] ∨ ∃ q, l[l.length - 1]? = some q ∧ nameLt q.name p.name) (hb : badOk p) : Good (l ++ [p]) := by
  refine ⟨fun q hq => ?_, ?_, fun q hq => ?_⟩
  · rcases List.mem_append.1 hq with hq | hq
    · exact h.names q hq
    · rw [List.mem_singleton.1 hq]; exact hn
  · rw [List.map_append, List.pairwise_append]
    refine ⟨h.order, by simp, fun a ha b hb => ?_⟩
    simp only [List.map_cons, List.map_nil, List.mem_singleton] at hb
    subst hb
    rcases ho with rfl | ⟨q, hq, hlt⟩
    · simp at ha
    · have hpos : 0 < l.length := by have := (List.getElem?_eq_some_iff.1 hq).1; omega
      obtain ⟨j, hj⟩ := List.mem_iff_getElem?.1 ha
      have hjl : j < l.length := by have := (List.getElem?_eq_some_iff.1 hj).1; simpa using this
      have hq' : (l.map (·.name))[l.length - 1]? = some q.name := by rw [List.getElem?_map, hq]; rfl
      rcases Nat.lt_or_ge j (l.length - 1) with hlt2 | hge
      · have := List.pairwise_iff_getElem.1 h.order j (l.length - 1) (by simpa using hjl) (by simp; omega) hlt2
        rw [(List.getElem?_eq_some_iff.1 hj).2, (List.getElem?_eq_some_iff.1 hq').2] at this
        exact List.lt_trans this hlt
      · obtain rfl : j = l.length - 1 := by omega
        rw [hq'] at hj
        rw [← Option.some.inj hj]; exact hlt
  · rcases List.mem_append.1 hq with hq | hq
    · exact h.bads q hq
    · rw [List.mem_singleton.1 hq]; exact hb
theorem not_good_name {l : List Plain} {i : Nat} {p : Plain} (hp : l[i]? = some p) (h : good p.name = false) : ¬ Good l := fun hg => by
  have := hg.names p (List.mem_of_getElem? hp)
  rw [h] at this; cases this
theorem not_good_order {l : List Plain} {i : Nat} {p q : Plain} (hp : l[i]? = some p) (hq : l[i + 1]? = some q) (h : ¬ nameLt p.name q.name) : ¬ Good l := fun hg => by
  have hl := (List.getElem?_eq_some_iff.1 hq).1
  have := List.pairwise_iff_getElem.1 hg.order i (i + 1) (by simp; omega) (by simpa using hl) (Nat.lt_succ_self _)
  simp only [List.getElem_map] at this
  rw [(List.getElem?_eq_some_iff.1 hp).2, (List.getElem?_eq_some_iff.1 hq).2] at this
  exact h this
/-- The first numbers of a list are in order and in range. -/
def badUpto (xs : List Int) (n : Nat) : Prop := xs.Pairwise (· < ·) ∧ ∀ k, k ∈ xs → 0 ≤ k ∧ k < (n : Int)
theorem badUpto_nil (n : Nat) : badUpto [] n := ⟨by simp, by simp⟩
theorem badUpto_step {xs : List Int} {n j : Nat} (h : badUpto (xs.take j) n) {k : Int} (hk : xs[j]? = some k) (h0 : 0 ≤ k) (hn : k < n) (ho : j = 0 ∨ ∃ q, xs[j - 1]? = some q ∧ q < k) : badUpto (xs.take (j + 1)) n := by
  have hl := (List.getElem?_eq_some_iff.1 hk).1
  have e : xs.take (j + 1) = xs.take j ++ [k] := by rw [List.take_succ_eq_append_getElem hl, (List.getElem?_eq_some_iff.1 hk).2]
  rw [e]
  refine ⟨?_, fun x hx => ?_⟩
  · rw [List.pairwise_append]
    refine ⟨h.1, by simp, fun a ha b hb => ?_⟩
    rw [List.mem_singleton.1 hb]
    rcases ho with rfl | ⟨q, hq, hlt⟩
    · simp at ha
    · obtain ⟨m, hm⟩ := List.mem_iff_getElem?.1 ha
      have hml : m < j := by have := (List.getElem?_eq_some_iff.1 hm).1; simp at this; omega
      have hq' : (xs.take j)[j - 1]? = some q := by rw [List.getElem?_take_of_lt (by omega)]; exact hq
      rcases Nat.lt_or_ge m (j - 1) with h1 | h1
      · have h2 := (List.getElem?_eq_some_iff.1 hm).1
        have h3 := (List.getElem?_eq_some_iff.1 hq').1
        have := List.pairwise_iff_getElem.1 h.1 m (j - 1) h2 h3 h1
        rw [(List.getElem?_eq_some_iff.1 hm).2, (List.getElem?_eq_some_iff.1 hq').2] at this
        omega
      · obtain rfl : m = j - 1 := by omega
        rw [hq'] at hm
        rw [← Option.some.inj hm]; exact hlt
  · rcases List.mem_append.1 hx with hx | hx
    · exact h.2 x hx
    · rw [List.mem_singleton.1 hx]; exact ⟨h0, hn⟩
theorem not_badOk_order {p : Plain} {j : Nat} {q k : Int} (hq : p.bad[j]? = some q) (hk : p.bad[j + 1]? = some k) (h : ¬ q < k) : ¬ badOk p := fun hb => by
  have := List.pairwise_iff_getElem.1 hb.1 j (j + 1) (List.getElem?_eq_some_iff.1 hq).1 (List.getElem?_eq_some_iff.1 hk).1 (Nat.lt_succ_self _)
  rw [(List.getElem?_eq_some_iff.1 hq).2, (List.getElem?_eq_some_iff.1 hk).2] at this
  exact h this
/-- The disk while one more file is being loaded. -/
def Dmid (L : List Plain) (f : FileS) : Disk := { Disk.load L with files := L.map loadFile ++ [f] }
theorem Dmid_file (L : List Plain) (f : FileS) : (Dmid L f).files[L.length]? = some f := by
  unfold Dmid
  simp only []
  rw [List.getElem?_append_right (by simp)]
  simp
theorem Dmid_modify (L : List Plain) (f : FileS) (g : FileS → FileS) : (Dmid L f).modify L.length g = Dmid L (g f) := by
  unfold Dmid Disk.modify
  have : (L.map loadFile ++ [f]).modify L.length g = L.map loadFile ++ [g f] := by
    apply List.ext_getElem?
    intro j
    rw [List.getElem?_modify]
    rcases Nat.lt_trichotomy j L.length with h | h | h
    · have hne : ¬ L.length = j := by omega
      rw [List.getElem?_append_left (by simpa using h), List.getElem?_append_left (by simpa using h)]; simp [hne]
    · subst h
      rw [List.getElem?_append_right (by simp), List.getElem?_append_right (by simp)]; simp
    · rw [List.getElem?_eq_none (by simp; omega), List.getElem?_eq_none (by simp; omega)]; rfl
  simp only [this]
def fileJ (p : Plain) (j : Nat) : FileS := ⟨clearBad (p.bad.take j) p.data, [], fun k => decide ((k : Int) ∈ p.bad.take j), fun _ => false, fun _ => false⟩
theorem fileJ_zero (p : Plain) : { FileS.new with seen := p.data } = fileJ p 0 := by
  unfold fileJ FileS.new
  simp [clearBad]
theorem fileJ_succ {p : Plain} {j : Nat} {k : Int} (hk : p.bad[j]? = some k) (h0 : 0 ≤ k) :
    { (fileJ p j) with seen := clearAt k.toNat (fileJ p j).seen, badSeen := fun x => (fileJ p j).badSeen x || decide (x = k.toNat) } = fileJ p (j + 1) := by
  have hl := (List.getElem?_eq_some_iff.1 hk).1
  have e : p.bad.take (j + 1) = p.bad.take j ++ [k] := by rw [List.take_succ_eq_append_getElem hl, (List.getElem?_eq_some_iff.1 hk).2]
  unfold fileJ
  simp only [e, clearBad_snoc, FileS.mk.injEq, true_and, and_true]
  funext x
  rw [Bool.eq_iff_iff]
  simp only [Bool.or_eq_true, decide_eq_true_eq, List.mem_append, List.mem_singleton]
  constructor
  · rintro (h | h)
    · exact .inl h
    · right; omega
  · rintro (h | h)
    · exact .inl h
    · right; omega
theorem fileJ_all (p : Plain) : { (fileJ p p.bad.length) with safe := (fileJ p p.bad.length).seen, badSafe := (fileJ p p.bad.length).badSeen } = loadFile p := by
  unfold fileJ loadFile
  simp
theorem fileJ_len (p : Plain) (j : Nat) : (fileJ p j).seen.length = p.data.length := by unfold fileJ; simp only []; rw [clearBad_len]
theorem load_snoc {L : List Plain} {p : Plain} (h : p.name ∉ L.map (·.name)) :
    { (Dmid L (loadFile p)) with now := put (Disk.load L).now p.name L.length, sure := put (Disk.load L).sure p.name L.length } = Disk.load (L ++ [p]) := by
  have e : put (named L 0) p.name L.length = named L 0 ++ [(p.name, L.length)] := by
    unfold put
    have : erase (named L 0) p.name = named L 0 := by
      unfold erase
      refine List.filter_eq_self.2 fun q hq => ?_
      have : q.1 ≠ p.name := fun e => h (by rw [← named_names L 0, ← e]; exact List.mem_map_of_mem hq)
      simpa using this
    rw [this]
  unfold Dmid Disk.load
  simp only [e, named_snoc, Nat.zero_add, List.map_append, List.map_cons, List.map_nil]
theorem notin_of_good {L : List Plain} {p : Plain} (h : Good (L ++ [p])) : p.name ∉ L.map (·.name) := by
  have := names_nodup h.order
  rw [List.map_append, List.nodup_append] at this
  intro hm
  exact this.2.2 _ hm p.name (by simp) rfl
end Go.Proofs.YtpckkdjdjkjapaaGreatDoor.Dm


/- Walks: Load. -/
namespace Go.Proofs.YtpckkdjdjkjapaaGreatDoor.Dw
open Go.RowKit Go.ChangeMaps Go.Proofs.YtpckkdjdjkjapaaGreatDoor.Mp Go.Proofs.YtpckkdjdjkjapaaGreatDoor.Dm Go.Proofs.YtpckkdjdjkjapaaGreatDoor.Da
open Go.Proofs.YtpckkdjdjkjapaaGreatDoorW.PrintWords (Kd add_field)
set_option linter.unusedVariables false
set_option linter.unusedSimpArgs false
set_option linter.unusedSectionVars false
/-- One file of an image that is read, cell by cell. -/
theorem img_cells {w : World} {Ap : Option Addr} {l : List Plain} (hC : fileK.C w Ap l.length l) {j : Nat} {p : Plain} (hp : l[j]? = some p) :
    ∃ ad A1 c1 A2 c2, Ap = some ad ∧ w.cell? (ad.add (j * 3)) = some (.string p.name) ∧ w.cell? ⟨(ad.add (j * 3)).block, (ad.add (j * 3)).off + 1, none⟩ = some (.slice A1 p.data.length c1) ∧
      w.cell? ⟨(ad.add (j * 3)).block, (ad.add (j * 3)).off + 2, none⟩ = some (.slice A2 p.bad.length c2) ∧ BytesAt w (.slice A1 p.data.length c1) p.data ∧ (∀ j (h : j < p.bad.length), ∃ a, A2 = some a ∧ w.cell? (a.add j) = some (.int .i64 p.bad[j])) ∧ p.bad.length ≤ c2 ∧ p.bad.length ≤ 9223372036854775807 := by
  have hj := (List.getElem?_eq_some_iff.1 hp).1
  obtain ⟨ad, rfl, h⟩ := hC.2.2 (by omega)
  obtain ⟨c, hc, hK, hcell⟩ := h j p hp
  obtain ⟨e0, c2, rfl, h0, ⟨e1, e2, rfl, hd, hb⟩⟩ := hK
  obtain ⟨A1, c1, rfl, hl1, hd⟩ := hd
  obtain ⟨A2, c2, rfl, hl2, hb⟩ := hb
  have h0 : e0 = [.string p.name] := h0
  subst h0
  have k0 := hcell 0 _ rfl
  have k1 := hcell 1 _ rfl
  have k2 := hcell 2 _ rfl
  have hz : fileK.sz = 3 := rfl
  rw [hz] at k0 k1 k2
  rw [add_field _ _ _ (by omega)] at k1 k2
  refine ⟨ad, A1, c1, A2, c2, rfl, k0, k1, k2, ⟨A1, c1, rfl, fun j u hu => ?_⟩, fun j hj => ?_, hl2, hb.2.1⟩
  · have hjl : j < p.data.length := by have := (List.getElem?_eq_some_iff.1 hu).1; simpa [u8s] using this
    obtain ⟨a, e, h⟩ := hd.2.2 (show 0 < p.data.length by omega)
    obtain ⟨c, _, hk, hc⟩ := h j p.data[j] (List.getElem?_eq_getElem hjl)
    have hk : c = [.int .u8 p.data[j]] := hk
    subst hk
    refine ⟨a, e, ?_⟩
    have := hc 0 _ rfl
    have e3 : j * (Kd.int .u8).sz + 0 = j := by show j * 1 + 0 = j; omega
    rw [e3] at this
    rw [this, ← hu]
    simp [u8s, hjl]
  · obtain ⟨a, e, h⟩ := hb.2.2 (show 0 < p.bad.length by omega)
    obtain ⟨c, _, hk, hc⟩ := h j p.bad[j] (List.getElem?_eq_getElem hj)
    have hk : c = [.int .i64 p.bad[j]] := hk
    subst hk
    refine ⟨a, e, ?_⟩
    have := hc 0 _ rfl
    have e3 : j * (Kd.int .i64).sz + 0 = j := by show j * 1 + 0 = j; omega
    rw [e3] at this
    exact this
theorem WF.load {l : List Plain} (h : Dm.Good l) : WF (Disk.load l) := by
  have hn := Ns.load h
  have e : (Disk.load l).files.length = l.length := by simp [Disk.load]
  exact ⟨hn.names, hn.names, fun p hp => by rw [e]; exact hn.lt p hp, fun p hp => by rw [e]; exact hn.lt p hp, fun c hc => by simp [Disk.load, Disk.new] at hc, fun c hc => by simp [Disk.load, Disk.new] at hc⟩
set_option maxHeartbeats 4000000 in
set_option maxRecDepth 100000 in
theorem load_calls {w : World} {eb : Nat → Addr} {L : List Err} (he : ErrsAt w.heap.size w eb L) (h10 : 10 ∈ L) (l : List Plain) (Ap : Option Addr) (c : Nat) (hC : fileK.C w Ap l.length l) (hlc : l.length ≤ c) (hl : l.length ≤ 4398046511104)
    (hlen : ∀ p, p ∈ l → p.data.length ≤ 140737488355328) (hnm : ∀ p, p ∈ l → p.name.size ≤ 9223372036854775807) :
    Calls Tryz.prog 12 #[.agg #[.slice Ap l.length c]] w fun e w' => Frm (fun _ => False) w w' ∧ ((Dm.Good l ∧ ∃ b A lab, e = .returned (.tuple #[dptr b, .nilIface]) ∧ DiskAt w.heap.size w' b A lab (Disk.load l)) ∨ (¬ Dm.Good l ∧ e = .returned (.tuple #[.pointer none, errV eb 10]))) := by
  have gi := he.var 10 h10
  have gil := he.low 10 h10
  have KN := Lib.hid (fun w => new_calls w)
  have HC := Lib.hid hC
  have HLen := Lib.hid hlen
  have HNm := Lib.hid hnm
  clear hC hlen hnm
  rw [errV_pos eb 10 (by decide)] at gi ⊢
  have gi' : w.cell? ⟨6, 0, none⟩ = some (.iface 320 (.pointer (some (eb 10)))) := gi
  clear gi he
  unfold dptr
  go_enter Tryz.func12, Tryz.ntmps12
  go_wp2_with fail
  refine (KN.out _).mono ?_
  rintro e w1 ⟨rfl, rfl⟩
  have hb0 := born (w.alloc (.cells #[.slice Ap l.length c] 24))
  have hf0 : Frm (fun _ => False) w (wBorn (w.alloc (.cells #[.slice Ap l.length c] 24))) := ((Frm.refl (fun _ => False) w).alloc _).trans (Frm.of_below (born_below _) (fun _ => False)) (fun _ _ h => h)
  have hx0 : (wBorn (w.alloc (.cells #[.slice Ap l.length c] 24))).heap[w.heap.size]? = some (.cells #[.slice Ap l.length c] 24 (0, 0)) := ((born_below _).block _ (by simp)).trans blk_alloc
  have I0 : LoadInv w (wBorn (w.alloc (.cells #[.slice Ap l.length c] 24))) w.heap.size (w.heap.size + 1 + 2) Ap l.length c (bornAdr (w.alloc (.cells #[.slice Ap l.length c] 24)).heap.size) (bornLab (w.alloc (.cells #[.slice Ap l.length c] 24)).heap.size) (Disk.load (l.take 0)) :=
    ⟨hf0, hx0, by rw [World.size_alloc] at hb0 ⊢; exact hb0⟩
  have HI := Lib.hid I0
  have x0 := cell_of (i := 0) hx0 rfl
  simp only [World.size_alloc]
  unfold dptr
  clear I0 hb0 hf0 hx0
  generalize hw1 : wBorn (w.alloc (.cells #[.slice Ap l.length c] 24)) = w1 at *
  clear hw1
  generalize hbb : w.heap.size + 1 + 2 = bb at *
  clear hbb
  obtain ⟨bx, hbx⟩ : ∃ bx, bx = w.heap.size := ⟨_, rfl⟩
  have HBX := Lib.hid hbx
  rw [← hbx] at x0 HI gil ⊢
  clear hbx
  go_wp2_with fail
  go_loopw [16] (fun v wr => ∃ i A lab, v = .int .i64 (i : Nat) ∧ i ≤ l.length ∧ Dm.Good (l.take i) ∧ LoadInv w wr bx bb Ap l.length c A lab (Disk.load (l.take i))) (fun v _ => l.length - (intOf v).toNat)
  case atStart => exact ⟨0, _, _, rfl, Nat.zero_le _, ⟨by simp, by simp, by simp⟩, HI.out⟩
  case round =>
    obtain ⟨i, A, lab, rfl, hi, hgood, I⟩ := hrel
    have II := Lib.hid I
    have HG := Lib.hid hgood
    clear I hgood
    by_cases hlt : i < l.length
    · obtain ⟨p, hp⟩ : ∃ p, l[i]? = some p := ⟨_, List.getElem?_eq_getElem hlt⟩
      have hpm := List.mem_of_getElem? hp
      have hCr : fileK.C wr Ap l.length l := Kd.C_below HC.out (II.out.frm.below (fun _ h => h.elim) (Nat.le_refl _))
      obtain ⟨ad, A1, c1, A2, c2, rfl, k0w, k1w, k2w, hby, hbd, hc2, hbl⟩ := img_cells HC.out hp
      have k0 := frm_cell II.out.frm k0w
      have k1 := frm_cell II.out.frm k1w
      have k2 := frm_cell II.out.frm k2w
      have hpl := HLen.out p hpm
      have hpn := HNm.out p hpm
      have HP := Lib.hid (And.intro hp hpm)
      have HBY := Lib.hid hby
      have HBD := Lib.hid hbd
      have HCR := Lib.hid hCr
      clear hp hpm hby hbd hCr k0w k1w k2w
      have xb : wr.cell? ⟨bx, 0, none⟩ = some (.slice (some ad) l.length c) := cell_of II.out.box rfl
      have gir : wr.cell? ⟨6, 0, none⟩ = some (.iface 320 (.pointer (some (eb 10)))) := (II.out.frm.cell (by rw [← HBX.out]; exact gil) id).trans gi'
      have hs6 : bx < wr.heap.size := Da.blk_lt II.out.box
      obtain ⟨ob, hob⟩ : ∃ o : Obj, o = .cells #[.string p.name, .slice A1 p.data.length c1, .slice A2 p.bad.length c2] 95 := ⟨_, rfl⟩
      have HOB := Lib.hid hob
      have xb' := cell_alloc (o := .cells #[.string p.name, .slice A1 p.data.length c1, .slice A2 p.bad.length c2] 95) xb
      have gir' := cell_alloc (o := .cells #[.string p.name, .slice A1 p.data.length c1, .slice A2 p.bad.length c2] 95) gir
      have ff : Frm (fun _ => False) w wr := II.out.frm
      clear hob
      have KG : Hid (∀ W, Calls Tryz.prog 52 #[.string p.name] W fun e w' => e = .returned (.bool (good p.name)) ∧ w' = W) := fun W => goodName_calls p.name W hpn
      obtain ⟨bo, hbo⟩ : ∃ bo : Bool, bo = true ↔ (good p.name = false ∨ ¬ (i = 0 ∨ ∃ m q, i = m + 1 ∧ l[m]? = some q ∧ nameLt q.name p.name)) := by classical exact ⟨decide _, decide_eq_true_iff⟩
      have HBO := Lib.hid hbo
      clear hbo
      go_upto_region 5 with (fail)
      go_cut [40] from 21 to 40 (fun t wx => t = .bool bo ∧ ∃ nq, wx = (wr.alloc (.cells #[.string p.name, .slice A1 p.data.length c1, .slice A2 p.bad.length c2] 95)).drewN nq)
      case first =>
        by_cases hgn : good p.name = false
        · rw [hgn] at KG
          have hb1 : bo = true := HBO.out.2 (.inl hgn)
          clear hgn
          go_wp2_with fail
          go_quiet ((go_at_call 52; exact Calls.quiet_of_same (KG.out _)))
          go_wp2
          go_meet
          case rel => exact ⟨by rw [hb1], _, rfl⟩
        · have hgn' : good p.name = true := by simpa using hgn
          rw [hgn'] at KG
          by_cases hi0 : i = 0
          · have hd0 : decide (0 < i) = false := by rw [hi0]; rfl
            have hb1 : bo = false := by
              cases bo with
              | false => rfl
              | true => exact absurd (HBO.out.1 rfl) (fun h => h.elim hgn (fun h => h (.inl hi0)))
            clear hgn hgn' hi0
            go_wp2_with fail
            go_quiet ((go_at_call 52; exact Calls.quiet_of_same (KG.out _)))
            go_wp2
            go_meet
            case rel => exact ⟨by rw [hb1], _, rfl⟩
          · obtain ⟨m, hm⟩ : ∃ m, m + 1 = i := ⟨i - 1, by omega⟩
            obtain ⟨q, hq⟩ : ∃ q, l[m]? = some q := ⟨_, List.getElem?_eq_getElem (by omega)⟩
            obtain ⟨ad', _, _, _, _, e, k0q, _⟩ := img_cells HCR.out hq
            cases e
            have k0q' := cell_alloc (o := .cells #[.string p.name, .slice A1 p.data.length c1, .slice A2 p.bad.length c2] 95) k0q
            have hdI : decide (0 < i) = true := decide_eq_true (by omega)
            have hwp : IntKind.i64.wrap ((i : Int) - 1) = (m : Int) := by rw [IntKind.wrap_i64]; omega
            have hmI : (m : Int) < (l.length : Int) := by omega
            have hlt2 : Op.bytesLess q.name.toList p.name.toList = true ↔ nameLt q.name p.name := by
              rw [bytesLess_eq, Lib.toList_data, Lib.toList_data, decide_eq_true_eq]; rfl
            have hno : nameLt q.name p.name ↔ bo = false := by
              have h := HBO.out
              constructor
              · intro h1
                cases bo with
                | false => rfl
                | true => exact absurd (h.1 rfl) (fun h => h.elim hgn (fun h => h (.inr ⟨m, q, hm.symm, hq, h1⟩)))
              · intro h1
                refine Classical.byContradiction fun h2 => ?_
                have := h.2 (.inr (fun h3 => h3.elim hi0 (fun ⟨m', q', e1, e2, e3⟩ => by
                  obtain rfl : m' = m := by omega
                  rw [hq] at e2
                  cases e2
                  exact h2 e3)))
                rw [h1] at this; cases this
            have hbe : Op.bytesLess q.name.toList p.name.toList = !bo := by
              rw [Bool.eq_iff_iff, hlt2, hno]; simp
            have hgeq : ∀ W : World, (binOp .geq 9 (.string q.name) (.string p.name)).run Tryz.prog W = .ok (.bool bo) W := fun W => by
              simp [binOp, Op.stringOp, hbe]
            clear hgn hgn' hi0 hm hq hlt2 hno k0q hbe
            go_wp2_with fail
            go_quiet ((go_at_call 52; exact Calls.quiet_of_same (KG.out _)))
            go_wp2
            go_meet
            case rel =>
              exact ⟨rfl, _, rfl⟩
      case rest =>
        obtain ⟨rfl, nq, rfl⟩ := hcut
        have fq : Frm (fun _ => False) wr ((wr.alloc (.cells #[.string p.name, .slice A1 p.data.length c1, .slice A2 p.bad.length c2] 95)).drewN nq) := ((Frm.refl _ _).alloc _).drewN _
        have hfil : ((wr.alloc (.cells #[.string p.name, .slice A1 p.data.length c1, .slice A2 p.bad.length c2] 95)).drewN nq).heap[wr.heap.size]? = some (.cells #[.string p.name, .slice A1 p.data.length c1, .slice A2 p.bad.length c2] 95 (0, 0)) := (blk_alloc (w := wr))
        have IQ : LoadInv w ((wr.alloc (.cells #[.string p.name, .slice A1 p.data.length c1, .slice A2 p.bad.length c2] 95)).drewN nq) bx bb (some ad) l.length c A lab (Disk.load (l.take i)) :=
          II.out.step HBX.out (fq.mono (fun _ _ h => h.elim)) (II.out.dsk.frame fq (fun _ h => h.elim))
        have hno6 : lab wr.heap.size = none := by
          rcases hl : lab wr.heap.size with _ | pp
          · rfl
          · have := (II.out.dsk.base _ pp hl).2; omega
        obtain ⟨s6, hs6e⟩ : ∃ s, s = wr.heap.size := ⟨_, rfl⟩
        rw [← hs6e] at hfil hno6 ⊢
        generalize hWq : (wr.alloc (.cells #[.string p.name, .slice A1 p.data.length c1, .slice A2 p.bad.length c2] 95)).drewN nq = Wq at *
        have hs6q : s6 < Wq.heap.size := Da.blk_lt hfil
        have M0 : MidInv w Wq bx bb (some ad) l.length c A lab (Disk.load (l.take i)) s6 (.cells #[.string p.name, .slice A1 p.data.length c1, .slice A2 p.bad.length c2] 95) := ⟨IQ, hfil, hno6⟩
        have HM := Lib.hid M0
        clear M0 IQ hfil hno6 fq hWq xb xb' gir gir' k0 k1 k2 ff KG HCR hs6 hs6e II
        have giq : Wq.cell? ⟨6, 0, none⟩ = some (.iface 320 (.pointer (some (eb 10)))) := (HM.out.inv.frm.cell (by rw [← HBX.out]; exact gil) id).trans gi'
        cases bo with
        | true =>
          have hng : ¬ Dm.Good l := by
            rcases HBO.out.1 rfl with h | h
            · exact not_good_name HP.out.1 h
            · intro hg
              rcases Nat.eq_zero_or_pos i with h0 | h0
              · exact h (.inl h0)
              · obtain ⟨m, rfl⟩ : ∃ m, i = m + 1 := ⟨i - 1, by omega⟩
                obtain ⟨q, hq⟩ : ∃ q, l[m]? = some q := ⟨_, List.getElem?_eq_getElem (by omega)⟩
                exact not_good_order hq HP.out.1 (fun h2 => h (.inr ⟨m, q, rfl, hq, h2⟩)) hg
          go_wp2
          go_quiet (fail)
          go_wp2
          go_ret2
          exact ⟨HM.out.inv.frm.drewN _, .inr ⟨hng, rfl⟩⟩
        | false =>
          have hgo : good p.name = true ∧ (i = 0 ∨ ∃ m q, i = m + 1 ∧ l[m]? = some q ∧ nameLt q.name p.name) := by
            refine Classical.byContradiction fun h => ?_
            have := HBO.out.2 (by
              by_cases h1 : good p.name = true
              · exact .inr fun h2 => h ⟨h1, h2⟩
              · exact .inl (by simpa using h1))
            cases this
          have HGO := Lib.hid hgo
          clear hgo giq
          obtain ⟨LL, hLL⟩ : ∃ LL, LL = l.take i := ⟨_, rfl⟩
          have hLi : LL.length = i := by rw [hLL, List.length_take]; omega
          rw [← hLL] at HM HG
          have HLL := Lib.hid (And.intro hLL hLi)
          have hDl : (Disk.load LL).files.length = i := by rw [← hLi]; simp [Disk.load]
          have dq := HM.out.inv.dsk
          obtain ⟨g1, g2, g3⟩ := dq.newFile (WF.load HG.out)
          have knf := newFile_calls dq (by rw [hDl]; omega)
          rw [hDl] at g1 g2 knf
          have g1' : DiskAt (bx + 1) (wNew Wq bb i) bb (A.withFile i (newFAdr Wq.heap.size)) (newLab lab i Wq.heap.size) (Dmid LL FileS.new) := g1
          have M1 := HM.out.step HBX.out g2 g1' (by have := HM.out.lno; unfold newLab; rw [if_neg (by omega), if_neg (by omega), if_neg (by omega), if_neg (by omega)]; exact this)
          have hfa1 : (A.withFile i (newFAdr Wq.heap.size)).fa i = newFAdr Wq.heap.size := withFile_at _ _ _
          have KNF := Lib.hid knf
          have HM1 := Lib.hid M1
          have hsw : s6 < (wNew Wq bb i).heap.size := Da.blk_lt M1.fil
          obtain ⟨fb, hfb⟩ : ∃ fb, fb = Wq.heap.size + 3 := ⟨_, rfl⟩
          have hfb1 : ((A.withFile i (newFAdr Wq.heap.size)).fa i).fb = fb := by rw [hfa1, hfb]; rfl
          rw [← hfb] at KNF
          clear hLL hDl dq g1 g2 g3 knf g1' M1 hfa1 hs6q hfb
          generalize A.withFile i (newFAdr Wq.heap.size) = Aa at *
          generalize newLab lab i Wq.heap.size = laba at *
          unfold dptr at KNF
          go_wp2_with fail
          refine KNF.out.mono ?_
          rintro e w' ⟨rfl, rfl⟩
          generalize wNew Wq bb i = W1 at *
          have HF1 := Lib.hid (HM1.out.inv.dsk.files i FileS.new (by rw [← hLi]; exact Dmid_file LL FileS.new))
          have f1c := HM1.out.fil
          have z1 : W1.cell? ⟨s6, 1, none⟩ = some (.slice A1 p.data.length c1) := cell_of f1c rfl
          have KCL := Lib.hid (cloneB_any _ p.data W1 (HBY.out.frm HM1.out.inv.frm) (by omega))
          have fbl : fb < W1.heap.size := by rw [← hfb1]; exact Da.blk_lt HF1.out.blk
          have b0 := HF1.out.blk
          rw [hfb1] at b0
          have HB0 := Lib.hid b0
          clear f1c KNF HM hLi b0
          go_upto_region 9 with (first
            | (go_at_call 54; (with_reducible refine KCL.out.mono ?_); rintro e w2 ⟨pv, cv, rfl, hr2, hf2⟩; have b1 := (hf2.block fb fbl id).trans HB0.out; have y1 := cell_of (i := 1) b1 rfl; have y2 := frozen_of (i := 1) b1; have HR2 := Lib.hid (And.intro hr2 hf2); clear hr2 hf2 b1))
          obtain ⟨hr2, hf2⟩ := HR2.out
          have hv2 : ∀ g, (Value.slice pv p.data.length cv).ownBlock = some g → W1.heap.size ≤ g ∧ g < w2.heap.size := fun g hg => own_low hr2 hg
          have hfd : (Dmid LL FileS.new).files[i]? = some FileS.new := by rw [← HLL.out.2]; exact Dmid_file LL FileS.new
          obtain ⟨d2, f2⟩ := HM1.out.inv.dsk.setSeen hfd hf2 hr2
          have e2 : (Dmid LL FileS.new).modify i (fun f => { f with seen := p.data }) = Dmid LL (fileJ p 0) := by rw [← HLL.out.2, Dmid_modify, fileJ_zero]
          rw [e2, hfb1] at d2
          rw [hfb1] at f2
          have M2 := HM1.out.step HBX.out f2 d2 (by
            unfold moveLab
            rw [if_neg (by intro e; have := (hv2 s6 e.symm).1; omega), if_neg (by rw [HM1.out.lno]; simp), HM1.out.lno])
          have hsd2 : ((Aa.withFile i { Aa.fa i with sd := .slice pv p.data.length cv }).fa i).sd = .slice pv p.data.length cv := by rw [withFile_at]
          have hfb2 : ((Aa.withFile i { Aa.fa i with sd := .slice pv p.data.length cv }).fa i).fb = fb := by rw [withFile_at]; exact hfb1
          have HM2 := Lib.hid M2
          clear d2 f2 e2 M2 hfd hv2 hr2 hf2 HM1 HF1 HR2 y1 y2 z1 KCL hfb1 hsw
          generalize Aa.withFile i { Aa.fa i with sd := .slice pv p.data.length cv } = Ab at *
          generalize moveLab laba (.sd i) (Value.slice pv p.data.length cv).ownBlock = labb at *
          generalize w2.setCell ⟨fb, 1, none⟩ (.slice pv p.data.length cv) = W3 at *
          have z1 : W3.cell? ⟨s6, 1, none⟩ = some (.slice A1 p.data.length c1) := cell_of HM2.out.fil rfl
          have z2 : W3.cell? ⟨s6, 2, none⟩ = some (.slice A2 p.bad.length c2) := cell_of HM2.out.fil rfl
          go_wp2_with fail
          go_loopw [54] (fun v wx => ∃ j, v = .int .i64 (j : Nat) ∧ j ≤ p.bad.length ∧ badUpto (p.bad.take j) (sectors p.data.length) ∧ MidInv w wx bx bb (some ad) l.length c Ab labb (Dmid LL (fileJ p j)) s6 (.cells #[.string p.name, .slice A1 p.data.length c1, .slice A2 p.bad.length c2] 95)) (fun v _ => p.bad.length - (intOf v).toNat)
          case atStart => exact ⟨0, rfl, Nat.zero_le _, badUpto_nil _, HM2.out⟩
          case round =>
            obtain ⟨j, rfl, hj, hbu, Mj⟩ := hrel
            have HMJ := Lib.hid Mj
            have HBU := Lib.hid hbu
            clear Mj hbu z1 z2
            have z1 : wr.cell? ⟨s6, 1, none⟩ = some (.slice A1 p.data.length c1) := cell_of HMJ.out.fil rfl
            have z2 : wr.cell? ⟨s6, 2, none⟩ = some (.slice A2 p.bad.length c2) := cell_of HMJ.out.fil rfl
            by_cases hjl : j < p.bad.length
            · obtain ⟨kx, hk⟩ : ∃ kx, p.bad[j]? = some kx := ⟨_, List.getElem?_eq_getElem hjl⟩
              obtain ⟨a2, rfl, hca⟩ := HBD.out j hjl
              have hkg : p.bad[j] = kx := by rw [List.getElem?_eq_getElem hjl] at hk; exact Option.some.inj hk
              rw [hkg] at hca
              have hcj := frm_cell HMJ.out.inv.frm hca
              have HK := Lib.hid hk
              have gir : wr.cell? ⟨6, 0, none⟩ = some (.iface 320 (.pointer (some (eb 10)))) := (HMJ.out.inv.frm.cell (by rw [← HBX.out]; exact gil) id).trans gi'
              obtain ⟨S, hS⟩ : ∃ S, S = sectors p.data.length := ⟨_, rfl⟩
              have KSE := Lib.hid (sectors_calls p.data.length (by omega) wr)
              rw [← hS] at KSE HBU
              have HS := Lib.hid hS
              clear hk hkg hca hS
              obtain ⟨bq, hbq⟩ : ∃ bq : Bool, bq = true ↔ ¬ (0 ≤ kx ∧ kx < (S : Int) ∧ (j = 0 ∨ ∃ m q, j = m + 1 ∧ p.bad[m]? = some q ∧ q < kx)) := by classical exact ⟨decide _, decide_eq_true_iff⟩
              have HBQ := Lib.hid hbq
              clear hbq
              obtain ⟨wa, rfl⟩ : ∃ wa, wa = wr := ⟨_, rfl⟩
              go_upto_region 12 with (fail)
              go_cut [82] from 59 to 82 (fun t wx => t = .bool bq ∧ wx = wa)
              case first =>
                by_cases hk0 : kx < 0
                · have hb1 : bq = true := HBQ.out.2 (fun h => by omega)
                  go_wp2_with (first | (go_at_call 55; refine KSE.out.mono ?_; rintro e w' ⟨rfl, rfl⟩))
                  go_meet
                  case rel => exact ⟨by rw [hb1], rfl⟩
                · by_cases hks : kx < (S : Int)
                  · have hge : ¬ (S : Int) ≤ kx := by omega
                    by_cases hj0 : j = 0
                    · have hd0 : decide (0 < j) = false := by rw [hj0]; rfl
                      have hb1 : bq = false := by
                        cases bq with
                        | false => rfl
                        | true => exact absurd ⟨by omega, hks, .inl hj0⟩ (HBQ.out.1 rfl)
                      clear hj0
                      go_wp2_with (first | (go_at_call 55; refine KSE.out.mono ?_; rintro e w' ⟨rfl, rfl⟩))
                      go_meet
                      case rel => exact ⟨by rw [hb1, decide_eq_false (by omega)], rfl⟩
                    · obtain ⟨m, hm⟩ : ∃ m, m + 1 = j := ⟨j - 1, by omega⟩
                      obtain ⟨kq, hq⟩ : ∃ kq, p.bad[m]? = some kq := ⟨_, List.getElem?_eq_getElem (by omega)⟩
                      obtain ⟨a2', e, hcm⟩ := HBD.out m (by omega)
                      cases e
                      have hqg : p.bad[m]'(by omega) = kq := by rw [List.getElem?_eq_getElem (by omega)] at hq; exact Option.some.inj hq
                      rw [hqg] at hcm
                      have hcm' := frm_cell HMJ.out.inv.frm hcm
                      have hdI : decide (0 < j) = true := decide_eq_true (by omega)
                      have hwp : IntKind.i64.wrap ((j : Int) - 1) = (m : Int) := by rw [IntKind.wrap_i64]; omega
                      have hmI : (m : Int) < (p.bad.length : Int) := by omega
                      by_cases hlt2 : kq < kx
                      · have hge2 : ¬ kx ≤ kq := by omega
                        have hb1 : bq = false := by
                          cases bq with
                          | false => rfl
                          | true => exact absurd ⟨by omega, hks, .inr ⟨m, kq, hm.symm, hq, hlt2⟩⟩ (HBQ.out.1 rfl)
                        clear hm hq hqg hcm hj0
                        go_wp2_with (first | (go_at_call 55; refine KSE.out.mono ?_; rintro e w' ⟨rfl, rfl⟩))
                        go_meet
                        case rel => exact ⟨by rw [hb1, show decide ((S : Int) ≤ kx) = false from decide_eq_false (by omega), show decide (kx ≤ kq) = false from decide_eq_false (by omega)]; rfl, rfl⟩
                      · have hge2 : kx ≤ kq := by omega
                        have hb1 : bq = true := HBQ.out.2 (fun h => h.2.2.elim hj0 (fun ⟨m', q', e1, e2, e3⟩ => by
                          obtain rfl : m' = m := by omega
                          rw [hq] at e2
                          cases e2
                          omega))
                        clear hm hq hqg hcm hj0
                        go_wp2_with (first | (go_at_call 55; refine KSE.out.mono ?_; rintro e w' ⟨rfl, rfl⟩))
                        go_meet
                        case rel => exact ⟨by rw [hb1], rfl⟩
                  · have hge : (S : Int) ≤ kx := by omega
                    have hb1 : bq = true := HBQ.out.2 (fun h => by omega)
                    go_wp2_with (first | (go_at_call 55; refine KSE.out.mono ?_; rintro e w' ⟨rfl, rfl⟩))
                    go_meet
                    case rel => exact ⟨by rw [hb1], rfl⟩
              case rest =>
                obtain ⟨rfl, rfl⟩ := hcut
                cases bq with
                | true =>
                  have hng : ¬ Dm.Good l := fun hg => by
                    have hbk := hg.bads p HP.out.2
                    have h1 := hbk.2 kx (List.mem_of_getElem? HK.out)
                    refine HBQ.out.1 rfl ⟨h1.1, by rw [HS.out]; exact h1.2, ?_⟩
                    rcases Nat.eq_zero_or_pos j with h0 | h0
                    · exact .inl h0
                    · obtain ⟨m, rfl⟩ : ∃ m, j = m + 1 := ⟨j - 1, by omega⟩
                      obtain ⟨kq, hq⟩ : ∃ kq, p.bad[m]? = some kq := ⟨_, List.getElem?_eq_getElem (by omega)⟩
                      exact .inr ⟨m, kq, rfl, hq, Classical.byContradiction fun h2 => not_badOk_order hq HK.out h2 hbk⟩
                  go_wp2
                  go_quiet (fail)
                  go_wp2
                  go_ret2
                  exact ⟨HMJ.out.inv.frm.drewN _, .inr ⟨hng, rfl⟩⟩
                | false =>
                  have hok : 0 ≤ kx ∧ kx < (S : Int) ∧ (j = 0 ∨ ∃ m q, j = m + 1 ∧ p.bad[m]? = some q ∧ q < kx) := Classical.byContradiction fun h => by
                    have := HBQ.out.2 h
                    cases this
                  obtain ⟨hx0, hxS, hxo⟩ := hok
                  obtain ⟨k, rfl⟩ : ∃ k : Nat, kx = (k : Int) := ⟨kx.toNat, by omega⟩
                  have hxo2 : j = 0 ∨ ∃ q, p.bad[j - 1]? = some q ∧ q < (k : Int) := hxo.imp id (fun ⟨m, q, e1, e2, e3⟩ => ⟨q, by rw [e1]; exact e2, e3⟩)
                  have hkl : k * 512 < p.data.length := by rw [← sectors_lt, ← HS.out]; omega
                  have hbs := badUpto_step HBU.out HK.out hx0 hxS hxo2
                  have HBS := Lib.hid hbs
                  obtain ⟨T, hT⟩ : ∃ T, min ((k + 1) * 512) p.data.length = T := ⟨_, rfl⟩
                  obtain ⟨fr, hfr⟩ : ∃ fr, k * 512 = fr := ⟨_, rfl⟩
                  have hT1 : fr < T := by omega
                  have hT2 : T ≤ p.data.length := by omega
                  have hkk : k ≤ 8796093022208 := by omega
                  have KSP := Lib.hid (span_big k p.data.length fr T hkk (by omega) hfr hT wc)
                  have F := HMJ.out.inv.dsk.files i (fileJ p j) (by rw [← HLL.out.2]; exact Dmid_file _ _)
                  have fblk := F.blk
                  have hrow := F.seen.row
                  rw [hfb2, hsd2] at fblk
                  rw [hsd2, fileJ_len] at hrow
                  obtain ⟨g, c', e, hcv, hg0, hgl⟩ := row_shape hrow (by omega)
                  simp only [Value.slice.injEq, true_and] at e
                  obtain ⟨rfl, rfl⟩ := e
                  have x1 : wc.cell? ⟨fb, 1, none⟩ = some (.slice (some ⟨g, 0, none⟩) p.data.length cv) := cell_of fblk rfl
                  have HT := Lib.hid (And.intro hT hfr)
                  have HF := Lib.hid F
                  have HROW := Lib.hid hrow
                  have hcf : ¬ cv = fr := by omega
                  have hfL : fr ≤ T := Nat.le_of_lt hT1
                  have hTcs : T ≤ cv := by omega
                  have hTc2 : T ≤ p.data.length := hT2
                  have hlb : (fileJ p j).seen.length = p.data.length := fileJ_len p j
                  have HLB := Lib.hid hlb
                  have hmid : fr + (T - fr) = T := by omega
                  have HMid := Lib.hid hmid
                  have hof : fr + (T - fr) ≤ p.data.length := by omega
                  have hsz1 : s6 < wc.heap.size := Da.blk_lt HMJ.out.fil
                  have step : ∀ w3, w3.ownsRow 0 5 1 (.slice (some ⟨g, 0, none⟩) p.data.length cv) p.data.length (u8s ((fileJ p j).seen.take fr ++ List.replicate (T - fr) 0 ++ (fileJ p j).seen.drop T)) → wc.grownBy w3 (some g) →
                      ∃ sb ks, w3.cell? ⟨fb, 2, none⟩ = some (.map (some sb)) ∧ MapAt (Value.int .i64) w3 sb (ent ks) ∧ ks.Nodup ∧ (∀ x : Int, x ∈ ks ↔ 0 ≤ x ∧ (fileJ p j).badSeen x.toNat = true) ∧
                        ∀ w4, MapAt (Value.int .i64) w4 sb (setL (ent ks) (k : Int) (.int .i64 1)) → w3.grownBy w4 (some sb) → MidInv w w4 bx bb (some ad) l.length c Ab labb (Dmid LL (fileJ p (j + 1))) s6 (.cells #[.string p.name, .slice A1 p.data.length c1, .slice (some a2) p.bad.length c2] 95) := by
                    intro w3 hr3 hg3
                    have ecl : (fileJ p j).seen.take fr ++ List.replicate (T - fr) 0 ++ (fileJ p j).seen.drop T = clearAt k (fileJ p j).seen := by
                      unfold clearAt; rw [hlb, hT, hfr]
                    rw [ecl] at hr3
                    have hfd : (Dmid LL (fileJ p j)).files[i]? = some (fileJ p j) := by rw [← HLL.out.2]; exact Dmid_file _ _
                    have hcl : (clearAt k (fileJ p j).seen).length = p.data.length := by rw [clearAt_len, hlb]
                    obtain ⟨d3, f3⟩ := HMJ.out.inv.dsk.turnSeen hfd (w1 := w3) (xs := clearAt k (fileJ p j).seen) (by rw [hsd2]; exact hg3) (by rw [hsd2, hcl]; exact hr3)
                    have e3 : (Dmid LL (fileJ p j)).modify i (fun f => { f with seen := clearAt k (fileJ p j).seen }) = Dmid LL { (fileJ p j) with seen := clearAt k (fileJ p j).seen } := by rw [← HLL.out.2, Dmid_modify]
                    rw [e3] at d3
                    have M3 := HMJ.out.step HBX.out f3 d3 HMJ.out.lno
                    have F3 := d3.files i { (fileJ p j) with seen := clearAt k (fileJ p j).seen } (by rw [← HLL.out.2]; exact Dmid_file _ _)
                    have b3 := F3.blk
                    rw [hfb2] at b3
                    obtain ⟨ks, hm, hnd, hmem⟩ := F3.badSeen
                    refine ⟨_, ks, cell_of b3 rfl, hm, hnd, hmem, fun w4 hm4 hg4 => ?_⟩
                    have hS4 := SetAt.ins hnd hmem k hm4
                    obtain ⟨d4, f4⟩ := d3.turnBad (by rw [← HLL.out.2]; exact Dmid_file _ _) hg4 hS4
                    have e4 : (Dmid LL { (fileJ p j) with seen := clearAt k (fileJ p j).seen }).modify i (fun f => { f with badSeen := fun x => (fileJ p j).badSeen x || decide (x = k) }) = Dmid LL (fileJ p (j + 1)) := by
                      rw [← HLL.out.2, Dmid_modify, ← fileJ_succ HK.out hx0]; rfl
                    rw [e4] at d4
                    exact M3.step HBX.out f4 d4 M3.lno
                  have STEP := Lib.hid step
                  clear hbs hT hfr F fblk hrow hlb hmid hxo hxo2 hx0 hkl step
                  go_wp2_with (first
                    | (go_at_call 56; (with_reducible refine KSP.out.mono ?_); rintro e w' ⟨rfl, rfl⟩)
                    | (refine wpl_clear_bytes rfl (.tmp 99) rfl rfl (Nat.sub_pos_of_lt hT1) HROW.out HLB.out hof (fun w3 hr3 hg3 hs3 => ?_); rw [HMid.out] at hr3; obtain ⟨sb, ks, x32, hm3, hnd, hmem, hfin⟩ := STEP.out w3 hr3 hg3; have HFIN := Lib.hid hfin; clear hmem hfin)
                    | (at_mapUpdate; refine wpl_update _ rfl _ _ _ rfl kI Tryz.underlying109 (k : Int) rfl rfl hm3 (fun w4 hm4 hg4 hs4 => ?_)))
                  go_roundw
                  case rel => exact ⟨j + 1, by go_num, by omega, by rw [← HS.out]; exact HBS.out, HFIN.out w4 hm4 hg4⟩
                  case measure => simp [intOf]; omega
            · obtain rfl : j = p.bad.length := by omega
              have F := HMJ.out.inv.dsk.files i (fileJ p p.bad.length) (by rw [← HLL.out.2]; exact Dmid_file _ _)
              have hseen := F.seen
              have fblk := F.blk
              rw [hfb2, hsd2] at fblk
              rw [hsd2] at hseen
              have x1 : wr.cell? ⟨fb, 1, none⟩ = some (.slice pv p.data.length cv) := cell_of fblk rfl
              have x2 : wr.cell? ⟨fb, 2, none⟩ = some (.map (some (Ab.fa i).sb)) := cell_of fblk rfl
              have hlb : (fileJ p p.bad.length).seen.length = p.data.length := fileJ_len p _
              have KCL := Lib.hid (clone_calls (.slice pv p.data.length cv) (fileJ p p.bad.length).seen (Ab.fa i).sb (fileJ p p.bad.length).badSeen wr (RowAt.bytes hseen) F.badSeen (by rw [hlb]; omega))
              have HF := Lib.hid fblk
              have fbl : fb < wr.heap.size := Da.blk_lt fblk
              have hs6q : s6 < wr.heap.size := Da.blk_lt HMJ.out.fil
              clear F hseen fblk hlb
              go_upto_region 19 with (first
                | (go_at_call 57; (with_reducible refine KCL.out.mono ?_); rintro e w4 ⟨dv4, m4, rfl, hr4, hS4, hb4, hm41, hm42, hne4⟩; obtain ⟨pd, cd, rfl⟩ := own_form hr4; have b4 := (hb4.block fb fbl).trans HF.out; have y3 := cell_of (i := 3) b4 rfl; have y4 := cell_of (i := 4) b4 rfl; have q3 := frozen_of (i := 3) b4; have q4 := frozen_of (i := 4) b4; have HR4 := Lib.hid (And.intro hr4 (And.intro hS4 (And.intro hb4 (And.intro hm41 (And.intro hm42 hne4))))); clear hr4 hS4 hb4 hm41 hm42 hne4 b4))
              obtain ⟨hr4, hS4, hb4, hm41, hm42, hne4⟩ := HR4.out
              have hfd : (Dmid LL (fileJ p p.bad.length)).files[i]? = some (fileJ p p.bad.length) := by rw [← HLL.out.2]; exact Dmid_file _ _
              obtain ⟨d5, f5⟩ := HMJ.out.inv.dsk.setSafe hfd hb4 hr4 hS4 hm41 hm42 hne4
              have e5 : (Dmid LL (fileJ p p.bad.length)).modify i (fun f => { f with safe := f.seen, badSafe := f.badSeen }) = Dmid LL (loadFile p) := by rw [← HLL.out.2, Dmid_modify, fileJ_all]
              rw [e5, hfb2] at d5
              rw [hfb2] at f5
              have M5 := HMJ.out.step HBX.out f5 d5 (by
                unfold syncLab
                rw [if_neg (by intro e; have := (own_low hr4 e.symm).1; omega), if_neg (by omega), if_neg (by rw [HMJ.out.lno]; simp), HMJ.out.lno])
              have hfb5 : ((Ab.withFile i { Ab.fa i with ad := .slice pd (fileJ p p.bad.length).seen.length cd, ab := m4 }).fa i).fb = fb := by rw [withFile_at]; exact hfb2
              have HM5 := Lib.hid M5
              clear d5 f5 e5 M5 hfd hr4 hS4 hb4 hm41 hm42 hne4 HR4 KCL HF y3 y4 q3 q4 x1 x2 z1 z2 HMJ hfb2 hsd2 fbl hs6q HM2
              generalize Ab.withFile i { Ab.fa i with ad := .slice pd (fileJ p p.bad.length).seen.length cd, ab := m4 } = Ac at *
              generalize syncLab labb i (Value.slice pd (fileJ p p.bad.length).seen.length cd).ownBlock m4 = labc at *
              generalize (w4.setCell ⟨fb, 3, none⟩ (.slice pd (fileJ p p.bad.length).seen.length cd)).setCell ⟨fb, 4, none⟩ (.map (some m4)) = W5 at *
              have hbad : badOk p := by have := HBU.out; rw [List.take_length] at this; exact this
              have hgs : Dm.Good (LL ++ [p]) := by
                refine good_snoc HG.out HGO.out.1 ?_ hbad
                rcases HGO.out.2 with h0 | ⟨m, q, e1, e2, e3⟩
                · exact .inl (List.eq_nil_of_length_eq_zero (by rw [HLL.out.2]; exact h0))
                · refine .inr ⟨q, ?_, e3⟩
                  rw [HLL.out.2, HLL.out.1, e1, List.getElem?_take_of_lt (by omega)]
                  exact e2
              have hnin := notin_of_good hgs
              have etk : l.take (i + 1) = LL ++ [p] := by
                rw [List.take_add_one, ← HLL.out.1, HP.out.1]; rfl
              have HGS := Lib.hid (And.intro hgs (And.intro hnin etk))
              clear hbad hgs hnin etk
              have z0 : W5.cell? ⟨s6, 0, none⟩ = some (.string p.name) := cell_of HM5.out.fil rfl
              have r0 : W5.cell? ⟨bb, 0, none⟩ = some (.map (some Ac.nm)) := main_cell HM5.out.inv.dsk.blk rfl
              obtain ⟨l', hp', hm'⟩ := HM5.out.inv.dsk.names
              have HPN := Lib.hid hp'
              clear hp'
              have hfp5 : fptr Ac i = .pointer (some ⟨fb, 0, none⟩) := by unfold fptr; rw [hfb5]
              have HFP := Lib.hid hfp5
              clear hfp5 hfb5
              go_still_tail 7, (by kernel_rfl)
              change wpList _ _ _ _ _ W5.drew
              refine wpl_update _ rfl _ _ _ rfl kS Tryz.underlying96 p.name rfl rfl hm' ?_
              intro W6 hm6 hg6 hs6'
              have hwl := WF.load HG.out
              obtain ⟨l2, hp2, hl2⟩ := setL_names HPN.out hwl.nowN Ac p.name i
              obtain ⟨d6, f6⟩ := HM5.out.inv.dsk.setNow (w' := W6) (l := put (Disk.load LL).now p.name i) ⟨l2, hp2, by rw [← hl2, HFP.out]; exact hm6⟩ ⟨hg6.os, hg6.tape, hg6.output, hg6.size, hg6.block⟩
              have M6 := HM5.out.step HBX.out f6 d6 HM5.out.lno
              have HM6 := Lib.hid M6
              clear d6 f6 M6 hl2 hp2 l2 hm6 hg6 hs6' hm' z0 r0 HPN l'
              have z0 : W6.cell? ⟨s6, 0, none⟩ = some (.string p.name) := cell_of HM6.out.fil rfl
              have r0 : W6.cell? ⟨bb, 1, none⟩ = some (.map (some Ac.sm)) := main_cell HM6.out.inv.dsk.blk rfl
              obtain ⟨l', hp', hm'⟩ := HM6.out.inv.dsk.sure
              have HPN := Lib.hid hp'
              clear hp'
              go_wp2_with fail
              go_still_tail 7, (by kernel_rfl)
              change wpList _ _ _ _ _ W6.drew
              refine wpl_update _ rfl _ _ _ rfl kS Tryz.underlying96 p.name rfl rfl hm' ?_
              intro W7 hm7 hg7 hs7'
              obtain ⟨l2, hp2, hl2⟩ := setL_names HPN.out hwl.sureN Ac p.name i
              obtain ⟨d7, f7⟩ := HM6.out.inv.dsk.setSure (w' := W7) (l := put (Disk.load LL).sure p.name i) ⟨l2, hp2, by rw [← hl2, HFP.out]; exact hm7⟩ ⟨hg7.os, hg7.tape, hg7.output, hg7.size, hg7.block⟩
              have e7 := load_snoc HGS.out.2.1
              rw [HLL.out.2] at e7
              have M7 := HM6.out.step HBX.out f7 d7 HM6.out.lno
              have HM7 : Hid (LoadInv w W7 bx bb (some ad) l.length c Ac labc (Disk.load (LL ++ [p]))) := by rw [← e7]; exact M7.inv
              clear d7 f7 M7 hl2 hp2 l2 hm7 hg7 hs7' hm' z0 r0 HPN l' e7
              go_wp2_with fail
              go_roundw
              case rel => exact ⟨i + 1, Ac, labc, by go_num, by omega, by rw [HGS.out.2.2]; exact HGS.out.1, by rw [HGS.out.2.2]; exact HM7.out⟩
              case measure => simp [intOf]; omega
    · obtain rfl : i = l.length := by omega
      rw [List.take_length] at HG II
      go_wp2_with fail
      go_ret2
      exact ⟨II.out.frm, .inl ⟨HG.out, bb, A, lab, rfl, II.out.dsk.lower (by have := HBX.out; omega)⟩⟩
end Go.Proofs.YtpckkdjdjkjapaaGreatDoor.Dw


/- Walks: Truncate's plan. -/
namespace Go.Proofs.YtpckkdjdjkjapaaGreatDoor.Dw
open Go.RowKit Go.ChangeMaps Go.Proofs.YtpckkdjdjkjapaaGreatDoor.Mp Go.Proofs.YtpckkdjdjkjapaaGreatDoor.Dm Go.Proofs.YtpckkdjdjkjapaaGreatDoor.Da
set_option linter.unusedVariables false
set_option linter.unusedSimpArgs false
set_option linter.unusedSectionVars false
theorem _root_.Go.Proofs.YtpckkdjdjkjapaaGreatDoor.Da.RowAt.shape {w : World} {lab : Nat → Option Lb} {p : Lb} {e : TypeId} {size : Nat} {v : Value} {n : Nat} {xs : List Value} (h : RowAt w lab p e size v n xs) : ∃ q c, v = .slice q n c ∧ n ≤ maxLen := by
  rcases h.cells with ⟨rfl, rfl⟩ | ⟨g, cap, rfl, h1, h2, _⟩
  · exact ⟨none, 0, rfl, by decide⟩
  · exact ⟨_, _, rfl, Nat.le_trans h1 h2⟩
set_option maxHeartbeats 8000000 in
set_option maxRecDepth 100000 in
theorem truncate1 {B : Nat} {W : World} {b : Nat} {A : Adr} {lab : Nat → Option Lb} {D : Disk} {eb : Nat → Addr} {L : List Err} (h : DiskAt B W b A lab D) (he : ErrsAt B W eb L) (hw : WF D) (n : Name) (k : Int) (cd cn ck : Nat)
    (hk : -9223372036854775808 ≤ k ∧ k ≤ 9223372036854775807)
    (h1 : W.cell? ⟨cd, 0, none⟩ = some (dptr b)) (h2 : W.cell? ⟨cn, 0, none⟩ = some (.string n)) (h3 : W.cell? ⟨ck, 0, none⟩ = some (.int .i64 k)) :
    Calls Tryz.prog 128 #[.pointer (some ⟨cd, 0, none⟩), .pointer (some ⟨cn, 0, none⟩), .pointer (some ⟨ck, 0, none⟩)] W fun e W' =>
      e = .returned (.agg #[errV eb (D.refuseTrunc n k), .func (.func 129) #[] #[.pointer (some ⟨cd, 0, none⟩), .pointer (some ⟨cn, 0, none⟩), .pointer (some ⟨ck, 0, none⟩)], .bool false, .nilFunc]) ∧ Frm (fun _ => False) W W' := by
  have c0 : W.cell? ⟨b, 0, none⟩ = some (.map (some A.nm)) := main_cell h.blk rfl
  have ca := he.arg
  obtain ⟨n10, n11, n12⟩ := ne2 (World.block_lt_of_cell? W _ h1)
  obtain ⟨n20, n21, n22⟩ := ne2 (World.block_lt_of_cell? W _ h2)
  obtain ⟨n30, n31, n32⟩ := ne2 (World.block_lt_of_cell? W _ h3)
  obtain ⟨n40, n41, n42⟩ := ne2 (World.block_lt_of_cell? W _ ca)
  obtain ⟨n50, n51, n52⟩ := ne2 (World.block_lt_of_cell? W _ c0)
  have key : ∀ o, Calls Tryz.prog 98 #[dptr b, .string n] (W.alloc o) fun e w' => e = .returned (errV eb (D.gone n)) ∧ w' = W.alloc o :=
    fun o => gone_calls (h.alloc o) (he.alloc o) hw.nowN n
  unfold dptr at h1 key
  have KEY := Lib.hid key
  clear key
  obtain ⟨l', hp, hm⟩ := h.names
  have hl := look_names hp hw.nowN A n
  cases hf : find D.now n with
  | none =>
    have hg : D.gone n = eGone := by simp [Disk.gone, hf]
    have hr : D.refuseTrunc n k = eGone := by unfold Disk.refuseTrunc; rw [hg, if_pos (by decide)]
    rw [hr, errV_pos eb eGone (by decide)]
    rw [hg, errV_pos eb eGone (by decide)] at KEY
    clear hr hl hp hm hg hf
    go_enter Tryz.func128, Tryz.ntmps128
    go_wp2_with fail
    refine (KEY.out _).mono ?_
    rintro e w' ⟨rfl, rfl⟩
    go_wp2_with fail
    go_quiet (fail)
    go_wp2
    exact bodyPost_ret (v := .agg #[.iface 320 (.pointer (some (eb 8))), .func (.func 129) #[] #[.pointer (some ⟨cd, 0, none⟩), .pointer (some ⟨cn, 0, none⟩), .pointer (some ⟨ck, 0, none⟩)], .bool false, .nilFunc]) (by simp [results, Tryz.results128, go_sem]) rfl ⟨rfl, (by repeat (first | (with_reducible assumption) | (with_reducible exact Frm.refl _ _) | (with_reducible apply Frm.drewN) | (with_reducible apply Frm.drew) | (with_reducible apply Frm.alloc) | (with_reducible refine Frm.setCell ?_ _ _ (fun h => absurd h (by first | (simp; done) | (simp; omega))))))⟩
  | some i =>
    have hg : D.gone n = 0 := by simp [Disk.gone, hf]
    obtain ⟨f, hff⟩ := WF.file hw hf
    have FF := h.files i f hff
    obtain ⟨sp, sc, hsd, hsl⟩ := FF.seen.shape
    have hlen : D.seenLen n = f.seen.length := by simp [Disk.seenLen, hf, hff]
    have r1 : W.cell? ⟨(A.fa i).fb, 1, none⟩ = some (.slice sp f.seen.length sc) := by rw [← hsd]; exact cell_of FF.blk rfl
    obtain ⟨n60, n61, n62⟩ := ne2 (World.block_lt_of_cell? W _ r1)
    rw [hg, errV_zero] at KEY
    have lk : ∀ (o1 o2 : Obj) nq, (Instr.lookup 96 (.map (some A.nm)) (.string n) false).run Tryz.prog (((W.alloc o1).alloc o2).drewN nq) = .ok (.pointer (some ⟨(A.fa i).fb, 0, none⟩)) (((W.alloc o1).alloc o2).drewN nq) := by
      intro o1 o2 nq
      have hlt := hm.lt
      have hm' : MapAt Value.string (((W.alloc o1).alloc o2).drewN nq) A.nm (l'.map fun p => (p.1, fptr A p.2)) := hm.of_block (by
        show ((W.alloc o1).alloc o2).heap[A.nm]? = _
        rw [blk_alloc_lt (by simp only [World.size_alloc]; omega), blk_alloc_lt hlt])
      have := hm'.lookup kS Tryz.underlying96 (zP _) n false
      rw [this, hl, hf]; rfl
    have mx : maxLen = 9223372036854775807 := by decide
    have hlx : (f.seen.length : Int) ≤ 9223372036854775807 := by omega
    clear hl hp hm hf hff FF hsd mx
    by_cases hlow : k < 0
    · have hr : D.refuseTrunc n k = eArg := by unfold Disk.refuseTrunc; rw [hg, if_neg (by decide), if_pos (.inl hlow)]
      rw [hr, errV_pos eb eArg (by decide)]
      clear hr hg hlen
      go_enter Tryz.func128, Tryz.ntmps128
      go_wp2_with fail
      refine (KEY.out _).mono ?_
      rintro e w' ⟨rfl, rfl⟩
      go_wp2_with fail
      go_quiet (fail)
      go_wp2
      exact bodyPost_ret (v := .agg #[.iface 320 (.pointer (some (eb 1))), .func (.func 129) #[] #[.pointer (some ⟨cd, 0, none⟩), .pointer (some ⟨cn, 0, none⟩), .pointer (some ⟨ck, 0, none⟩)], .bool false, .nilFunc]) (by simp [results, Tryz.results128, go_sem]) rfl ⟨rfl, (by repeat (first | (with_reducible assumption) | (with_reducible exact Frm.refl _ _) | (with_reducible apply Frm.drewN) | (with_reducible apply Frm.drew) | (with_reducible apply Frm.alloc) | (with_reducible refine Frm.setCell ?_ _ _ (fun h => absurd h (by first | (simp; done) | (simp; omega))))))⟩
    · have h0 : 0 ≤ k := by omega
      have hlow' : decide (k < 0) = false := decide_eq_false hlow
      have tm : k.tmod 512 = k % 512 := Int.tmod_eq_emod_of_nonneg h0
      by_cases hrem : k % 512 = 0
      · by_cases hgt : (f.seen.length : Int) < k
        · have hr : D.refuseTrunc n k = eArg := by unfold Disk.refuseTrunc; rw [hg, if_neg (by decide), if_pos (.inr (.inr (by rw [hlen]; exact hgt)))]
          rw [hr, errV_pos eb eArg (by decide)]
          clear hr hg hlen
          go_enter Tryz.func128, Tryz.ntmps128
          go_wp2_with fail
          refine (KEY.out _).mono ?_
          rintro e w' ⟨rfl, rfl⟩
          go_wp2_with fail
          go_quiet (fail)
          go_wp2
          exact bodyPost_ret (v := .agg #[.iface 320 (.pointer (some (eb 1))), .func (.func 129) #[] #[.pointer (some ⟨cd, 0, none⟩), .pointer (some ⟨cn, 0, none⟩), .pointer (some ⟨ck, 0, none⟩)], .bool false, .nilFunc]) (by simp [results, Tryz.results128, go_sem]) rfl ⟨rfl, (by repeat (first | (with_reducible assumption) | (with_reducible exact Frm.refl _ _) | (with_reducible apply Frm.drewN) | (with_reducible apply Frm.drew) | (with_reducible apply Frm.alloc) | (with_reducible refine Frm.setCell ?_ _ _ (fun h => absurd h (by first | (simp; done) | (simp; omega))))))⟩
        · have hr : D.refuseTrunc n k = 0 := by
            unfold Disk.refuseTrunc; rw [hg, if_neg (by decide), if_neg]
            rintro (h | h | h)
            · omega
            · exact h hrem
            · rw [hlen] at h; omega
          rw [hr, errV_zero]
          clear hr hg hlen
          go_enter Tryz.func128, Tryz.ntmps128
          go_wp2_with fail
          refine (KEY.out _).mono ?_
          rintro e w' ⟨rfl, rfl⟩
          go_wp2_with fail
          go_quiet (fail)
          go_wp2
          exact bodyPost_ret (v := .agg #[.nilIface, .func (.func 129) #[] #[.pointer (some ⟨cd, 0, none⟩), .pointer (some ⟨cn, 0, none⟩), .pointer (some ⟨ck, 0, none⟩)], .bool false, .nilFunc]) (by simp [results, Tryz.results128, go_sem]) rfl ⟨rfl, (by repeat (first | (with_reducible assumption) | (with_reducible exact Frm.refl _ _) | (with_reducible apply Frm.drewN) | (with_reducible apply Frm.drew) | (with_reducible apply Frm.alloc) | (with_reducible refine Frm.setCell ?_ _ _ (fun h => absurd h (by first | (simp; done) | (simp; omega))))))⟩
      · have hr : D.refuseTrunc n k = eArg := by unfold Disk.refuseTrunc; rw [hg, if_neg (by decide), if_pos (.inr (.inl hrem))]
        rw [hr, errV_pos eb eArg (by decide)]
        clear hr hg hlen
        go_enter Tryz.func128, Tryz.ntmps128
        go_wp2_with fail
        refine (KEY.out _).mono ?_
        rintro e w' ⟨rfl, rfl⟩
        go_wp2_with fail
        go_quiet (fail)
        go_wp2
        exact bodyPost_ret (v := .agg #[.iface 320 (.pointer (some (eb 1))), .func (.func 129) #[] #[.pointer (some ⟨cd, 0, none⟩), .pointer (some ⟨cn, 0, none⟩), .pointer (some ⟨ck, 0, none⟩)], .bool false, .nilFunc]) (by simp [results, Tryz.results128, go_sem]) rfl ⟨rfl, (by repeat (first | (with_reducible assumption) | (with_reducible exact Frm.refl _ _) | (with_reducible apply Frm.drewN) | (with_reducible apply Frm.drew) | (with_reducible apply Frm.alloc) | (with_reducible refine Frm.setCell ?_ _ _ (fun h => absurd h (by first | (simp; done) | (simp; omega))))))⟩
theorem trunc_bound {D : Disk} {n : Name} {k : Int} (hl : ∀ f, f ∈ D.files → f.seen.length ≤ 4398046511104) (h : D.refuseTrunc n k = 0) : 0 ≤ k ∧ k ≤ 4611686018427387904 := by
  unfold Disk.refuseTrunc at h
  split at h
  · rename_i h1; exact absurd h h1
  · split at h
    · cases h
    · rename_i h1 h2
      have h3 : D.seenLen n ≤ 4398046511104 := by
        unfold Disk.seenLen
        split
        · rename_i i hi
          cases hf : D.files[i]? with
          | none => simp
          | some f => simp; exact hl f (List.mem_of_getElem? hf)
        · exact Nat.zero_le _
      refine ⟨by omega, by omega⟩
end Go.Proofs.YtpckkdjdjkjapaaGreatDoor.Dw


/- Walks: cutTo. -/
namespace Go.Proofs.YtpckkdjdjkjapaaGreatDoor.Dw
open Go.RowKit Go.ChangeMaps Go.Proofs.YtpckkdjdjkjapaaGreatDoor.Mp Go.Proofs.YtpckkdjdjkjapaaGreatDoor.Dm Go.Proofs.YtpckkdjdjkjapaaGreatDoor.Da
set_option linter.unusedVariables false
set_option linter.unusedSimpArgs false
set_option linter.unusedSectionVars false
set_option maxHeartbeats 1000000 in
set_option maxRecDepth 100000 in
theorem cutTo_calls {w : World} {fb o m : Nat} {cs : Array Value} {v : Value} {xs : List Int} {S : Nat → Bool} (hb : w.heap[fb]? = some (.cells cs 113 (0, 0))) (h0 : cs[o]? = some v) (h1 : cs[o + 1]? = some (.map (some m)))
    (hrow : w.ownsRow 0 5 1 v xs.length (u8s xs)) (hnb : v.ownBlock ≠ some fb) (hS : SetAt w m S) (hm : m ≠ fb) (n : Int) (hn0 : 0 ≤ n) (hn : n ≤ 4611686018427387904) (hxs : xs.length ≤ 4611686018427387904) (hk : ∀ k, S k = true → k < 9007199254740992) :
    Calls Tryz.prog 130 #[.pointer (some ⟨fb, o, none⟩), .int .i64 n] w fun e w' => e = .returned (.tuple #[]) ∧ ∃ v', v'.ownBlock = v.ownBlock ∧ w'.heap[fb]? = some (.cells (cs.setIfInBounds o v') 113 (0, 0)) ∧
      (∀ W : World, (∀ g, v.ownBlock = some g → W.heap[g]? = w.heap[g]?) → W.ownsRow 0 5 1 v' (xs.take n.toNat).length (u8s (xs.take n.toNat))) ∧ SetAt w' m (cutBad S n) ∧ Frm (fun k => k = fb ∨ k = m) w w' := by
  obtain ⟨ks, hks, hnd, hmem⟩ := hS
  change MapAt (Value.int .i64) w m (ent ks) at hks
  have hv : (v = .slice none 0 0 ∧ xs.length = 0) ∨ ∃ g c, v = .slice (some ⟨g, 0, none⟩) xs.length c ∧ xs.length ≤ c := by
    rcases hrow.2 with ⟨h1, h2⟩ | ⟨g, cap, cur, hv, _, _, h3, _⟩
    · exact .inl ⟨h1, h2⟩
    · exact .inr ⟨g, cap, hv, h3⟩
  have ho : o < cs.size := (Array.getElem?_eq_some_iff.1 h0).1
  have fblt := blk_lt hb
  have mlt := hks.lt
  have x0 : w.cell? ⟨fb, o, none⟩ = some v := cell_of hb h0
  have x2 : w.frozen? ⟨fb, o, none⟩ = false := frozen_of hb
  have y1 : ∀ v', (w.setCell ⟨fb, o, none⟩ v').cell? ⟨fb, o + 1, none⟩ = some (.map (some m)) := fun v' => by
    refine cell_of (blk_set hb) ?_
    rw [Array.getElem?_setIfInBounds_ne (by omega)]; exact h1
  have M1 : ∀ v', MapAt (Value.int .i64) (w.setCell ⟨fb, o, none⟩ v').drew m (ent ks) := fun v' => hks.of_block (blk_set_ne hm)
  have F1 : ∀ v', Frm (fun k => k = fb ∨ k = m) w (w.setCell ⟨fb, o, none⟩ v').drew := fun v' => ((Frm.refl _ _).setCell _ _ (fun _ => .inl rfl)).drew
  have B1 : ∀ v', (w.setCell ⟨fb, o, none⟩ v').drew.heap[fb]? = some (.cells (cs.setIfInBounds o v') 113 (0, 0)) := fun v' => blk_set hb
  have hmin : ∃ j : Nat, min n (xs.length : Int) = (j : Int) ∧ j = (xs.take n.toNat).length ∧ j ≤ xs.length := ⟨min n.toNat xs.length, by omega, by rw [List.length_take], by omega⟩
  obtain ⟨j, hj, hjl, hjx⟩ := hmin
  have HRow : Hid (∀ v', (v = .slice none 0 0 ∧ v' = v ∨ ∃ g c, v = .slice (some ⟨g, 0, none⟩) xs.length c ∧ v' = .slice (some ⟨g, 0, none⟩) j c) → ∀ W : World, (∀ g, v.ownBlock = some g → W.heap[g]? = w.heap[g]?) → W.ownsRow 0 5 1 v' (xs.take n.toNat).length (u8s (xs.take n.toNat))) := by
    intro v' hv' W hW
    have hr := ownsRow.same hrow hW
    refine ⟨by simp [u8s], ?_⟩
    rcases hv' with ⟨e1, e2⟩ | ⟨g, c, e1, e2⟩
    · rcases hr.2 with ⟨_, h2⟩ | ⟨g, cap, cur, hv, _⟩
      · exact .inl ⟨by rw [e2, e1], by rw [List.length_take, h2]; omega⟩
      · rw [e1] at hv; cases hv
    · rcases hr.2 with ⟨h2, _⟩ | ⟨g', cap, cur, hv, hg, hh, c1, c2, c3, c4⟩
      · rw [e1] at h2; cases h2
      · rw [e1] at hv
        simp only [Value.slice.injEq, Option.some.injEq, Addr.mk.injEq, true_and, and_true] at hv
        obtain ⟨rfl, rfl⟩ := hv
        refine .inr ⟨g, c, cur, by rw [e2, hjl], hg, hh, by omega, c2, c3, ?_⟩
        have e3 : xs.take n.toNat = xs.take j := by
          rw [List.take_eq_take_iff, hjl, List.length_take]; omega
        rw [← hjl, e3]
        have e4 : u8s (xs.take j) = (u8s xs).take j := by unfold u8s; rw [List.map_take]
        rw [e4, ← c4, List.take_take, Nat.mul_one, Nat.mul_one, Nat.min_eq_left hjx]
  have HMem := Lib.hid hmem
  have HK := Lib.hid hk
  clear hb h0 hrow hmem hk hjl
  have fin : ∀ v', v'.ownBlock = v.ownBlock → (v = .slice none 0 0 ∧ v' = v ∨ ∃ g c, v = .slice (some ⟨g, 0, none⟩) xs.length c ∧ v' = .slice (some ⟨g, 0, none⟩) j c) → ∀ w3, w3.heap[fb]? = some (.cells (cs.setIfInBounds o v') 113 (0, 0)) → SetAt w3 m (cutBad S n) → Frm (fun k => k = fb ∨ k = m) w w3 → 
      ∃ v', v'.ownBlock = v.ownBlock ∧ w3.heap[fb]? = some (.cells (cs.setIfInBounds o v') 113 (0, 0)) ∧
      (∀ W : World, (∀ g, v.ownBlock = some g → W.heap[g]? = w.heap[g]?) → W.ownsRow 0 5 1 v' (xs.take n.toNat).length (u8s (xs.take n.toNat))) ∧ SetAt w3 m (cutBad S n) ∧ Frm (fun k => k = fb ∨ k = m) w w3 :=
    fun v' e1 e2 w3 e3 e4 e5 => ⟨v', e1, e3, HRow.out v' e2, e4, e5⟩
  have FIN := Lib.hid fin
  have H1 := Lib.hid h1
  clear fin HRow h1
  rcases hv with ⟨rfl, hx0⟩ | ⟨g, c, rfl, hc⟩
  · have hj0 : min n ((0 : Nat) : Int) = 0 := by omega
    simp only [Int.natCast_zero] at hj0
    go_enter Tryz.func130, Tryz.ntmps130
    go_wp2_with fail
    go_still_tail 15, (by kernel_rfl)
    change wpList _ _ _ _ _ w.drew
    have m1 := M1 (.slice none 0 0)
    have f1 := F1 (.slice none 0 0)
    have b1 := B1 (.slice none 0 0)
    have y2 := y1 (.slice none 0 0)
    clear M1 F1 B1 y1
    go_wp2_with (first | (at_range; generalize (w.setCell ⟨fb, o, none⟩ (.slice none 0 0)).drew = W1 at *; refine wpl_range _ rfl _ rfl Tryz.underlying109 rfl m1 ?_; intro W2 hi2 hg2 hs2))
    have y3 : W1.cell? ⟨fb, o + 1, none⟩ = some (.map (some m)) := cell_of b1 (by rw [Array.getElem?_setIfInBounds_ne (by omega)]; exact H1.out)
    have I2 : CutInv W1 W2 m W1.heap.size n ks ks ks := ⟨(Frm.of_grown hg2).mono (fun k _ e => by simp at e), hi2, hnd, hnd, fun k => ⟨fun h => ⟨h, .inl h⟩, fun h => h.1⟩, fun _ h => h⟩
    have HI := Lib.hid I2
    have MM : m < W1.heap.size := Nat.lt_of_lt_of_le mlt f1.size
    have FF : fb < W1.heap.size := Nat.lt_of_lt_of_le fblt f1.size
    have HB := Lib.hid b1
    have HF := Lib.hid f1
    clear I2 hi2 hg2 hs2 m1 b1 f1
    go_frame
    go_loopw [] (fun wr => ∃ ks' tk, CutInv W1 wr m W1.heap.size n ks ks' tk) (fun wr => leftIn wr W1.heap.size m)
    case atStart => exact ⟨ks, ks, HI.out⟩
    case round =>
      obtain ⟨ks', tk, I⟩ := hrel
      have hsz : W1.heap.size < wr.heap.size := by
        obtain ⟨es, cl, sn, _, hh, _⟩ := I.iter
        exact blk_lt hh
      have II := Lib.hid I
      have hI := I.iter
      have z2 : wr.cell? ⟨fb, o + 1, none⟩ = some (.map (some m)) := (I.frm.cell FF (Ne.symm hm)).trans y3
      have hleft := I.iter.left
      clear I
      by_cases h0 : tk = []
      · subst h0
        go_wp2_with (first | (at_next; refine wpl_next _ rfl _ rfl rfl hI (fun h0 => ?_) (fun y vv todo' w1 hp hi1 hg1 hs1 hen => absurd hp.length_eq (by simp [ent]))))
        go_end0
        refine ⟨rfl, FIN.out (.slice none 0 0) (by simp [Value.ownBlock]) (by simp) _ ?_ ⟨ks', II.out.iter.map, II.out.nd, fun k => ?_⟩ (HF.out.trans II.out.frm (fun k _ e => .inr e))⟩
        · rw [II.out.frm.block fb FF (Ne.symm hm)]; exact HB.out
        · rw [II.out.mem k]
          unfold cutBad
          rw [HMem.out k]
          constructor
          · rintro ⟨⟨h1, h2⟩, h3⟩
            refine ⟨h1, ?_⟩
            have h4 : k * 512 < n := by simpa using h3
            rw [h2]; simp; omega
          · rintro ⟨h1, h2⟩
            simp only [Bool.and_eq_true, decide_eq_true_eq] at h2
            exact ⟨⟨h1, h2.1⟩, .inr (by omega)⟩
      · go_wp2_with (first
          | (at_next; (refine wpl_next _ rfl _ rfl rfl hI (fun h0x => absurd (List.map_eq_nil_iff.1 h0x) h0) (fun y vv todo' w1 hp hi1 hg1 hs1 hen => ?_); obtain ⟨rfl, tk', rfl, hp'⟩ := ent_perm hp; have hyk := (HMem.out y).1 (II.out.sub y (hp'.mem_iff.2 List.mem_cons_self)); have hyS := HK.out _ hyk.2; have hy0 : 0 ≤ y := hyk.1; have hy1 : y < 9007199254740992 := (by omega); have hyt : y ∉ (ent tk').map (·.1) := (by simpa [ent, Function.comp_def] using (List.nodup_cons.1 (hp'.nodup_iff.1 II.out.ndt)).1); have z3 := (hg1.cell_far ⟨fb, o + 1, none⟩ (Nat.lt_of_lt_of_le FF II.out.frm.size) (fun e => by have : fb = W1.heap.size := Option.some.inj e; omega)).trans z2; have HP' := Lib.hid hp'; clear hp' hp hyk hyS; by_cases hge : n ≤ y * 512))
          | (at_delete; refine wpl_delete_iter _ rfl _ _ rfl kI Tryz.underlying109 y rfl rfl hi1 hyt (fun w2 hi2 hg2 hs2 => ?_)))
        · have fr := (II.out.frm.grown hg1 (fun k e hk => by have := Option.some.inj e; omega)).grown hg2 (fun k e _ => (Option.some.inj e).symm)
          refine ⟨⟨_, _, _, _, _, _, _, _, _, _, _, _, _, _, ⟨_, tk', II.out.gone HP'.out (by omega) fr hi2⟩, rfl⟩, ?_⟩
          rw [hi2.left, hleft]
          have := HP'.out.length_eq
          simp [ent] at this ⊢
          omega
        · have fr := II.out.frm.grown hg1 (fun k e hk => by have := Option.some.inj e; omega)
          refine ⟨⟨ks', tk', II.out.kept HP'.out (by omega) fr hi1⟩, ?_⟩
          rw [hi1.left, hleft]
          have := HP'.out.length_eq
          simp [ent] at this ⊢
          omega
  · have hjc : j ≤ c := Nat.le_trans hjx hc
    go_enter Tryz.func130, Tryz.ntmps130
    go_wp2_with fail
    go_still_tail 15, (by kernel_rfl)
    change wpList _ _ _ _ _ w.drew
    have m1 := M1 (.slice (some ⟨g, 0, none⟩) j c)
    have f1 := F1 (.slice (some ⟨g, 0, none⟩) j c)
    have b1 := B1 (.slice (some ⟨g, 0, none⟩) j c)
    have y2 := y1 (.slice (some ⟨g, 0, none⟩) j c)
    clear M1 F1 B1 y1
    go_wp2_with (first | (at_range; generalize (w.setCell ⟨fb, o, none⟩ (.slice (some ⟨g, 0, none⟩) j c)).drew = W1 at *; refine wpl_range _ rfl _ rfl Tryz.underlying109 rfl m1 ?_; intro W2 hi2 hg2 hs2))
    have y3 : W1.cell? ⟨fb, o + 1, none⟩ = some (.map (some m)) := cell_of b1 (by rw [Array.getElem?_setIfInBounds_ne (by omega)]; exact H1.out)
    have I2 : CutInv W1 W2 m W1.heap.size n ks ks ks := ⟨(Frm.of_grown hg2).mono (fun k _ e => by simp at e), hi2, hnd, hnd, fun k => ⟨fun h => ⟨h, .inl h⟩, fun h => h.1⟩, fun _ h => h⟩
    have HI := Lib.hid I2
    have MM : m < W1.heap.size := Nat.lt_of_lt_of_le mlt f1.size
    have FF : fb < W1.heap.size := Nat.lt_of_lt_of_le fblt f1.size
    have HB := Lib.hid b1
    have HF := Lib.hid f1
    clear I2 hi2 hg2 hs2 m1 b1 f1
    go_frame
    go_loopw [] (fun wr => ∃ ks' tk, CutInv W1 wr m W1.heap.size n ks ks' tk) (fun wr => leftIn wr W1.heap.size m)
    case atStart => exact ⟨ks, ks, HI.out⟩
    case round =>
      obtain ⟨ks', tk, I⟩ := hrel
      have hsz : W1.heap.size < wr.heap.size := by
        obtain ⟨es, cl, sn, _, hh, _⟩ := I.iter
        exact blk_lt hh
      have II := Lib.hid I
      have hI := I.iter
      have z2 : wr.cell? ⟨fb, o + 1, none⟩ = some (.map (some m)) := (I.frm.cell FF (Ne.symm hm)).trans y3
      have hleft := I.iter.left
      clear I
      by_cases h0 : tk = []
      · subst h0
        go_wp2_with (first | (at_next; refine wpl_next _ rfl _ rfl rfl hI (fun h0 => ?_) (fun y vv todo' w1 hp hi1 hg1 hs1 hen => absurd hp.length_eq (by simp [ent]))))
        go_end0
        refine ⟨rfl, FIN.out (.slice (some ⟨g, 0, none⟩) j c) (by simp [Value.ownBlock]) (.inr ⟨g, c, rfl, rfl⟩) _ ?_ ⟨ks', II.out.iter.map, II.out.nd, fun k => ?_⟩ (HF.out.trans II.out.frm (fun k _ e => .inr e))⟩
        · rw [II.out.frm.block fb FF (Ne.symm hm)]; exact HB.out
        · rw [II.out.mem k]
          unfold cutBad
          rw [HMem.out k]
          constructor
          · rintro ⟨⟨h1, h2⟩, h3⟩
            refine ⟨h1, ?_⟩
            have h4 : k * 512 < n := by simpa using h3
            rw [h2]; simp; omega
          · rintro ⟨h1, h2⟩
            simp only [Bool.and_eq_true, decide_eq_true_eq] at h2
            exact ⟨⟨h1, h2.1⟩, .inr (by omega)⟩
      · go_wp2_with (first
          | (at_next; (refine wpl_next _ rfl _ rfl rfl hI (fun h0x => absurd (List.map_eq_nil_iff.1 h0x) h0) (fun y vv todo' w1 hp hi1 hg1 hs1 hen => ?_); obtain ⟨rfl, tk', rfl, hp'⟩ := ent_perm hp; have hyk := (HMem.out y).1 (II.out.sub y (hp'.mem_iff.2 List.mem_cons_self)); have hyS := HK.out _ hyk.2; have hy0 : 0 ≤ y := hyk.1; have hy1 : y < 9007199254740992 := (by omega); have hyt : y ∉ (ent tk').map (·.1) := (by simpa [ent, Function.comp_def] using (List.nodup_cons.1 (hp'.nodup_iff.1 II.out.ndt)).1); have z3 := (hg1.cell_far ⟨fb, o + 1, none⟩ (Nat.lt_of_lt_of_le FF II.out.frm.size) (fun e => by have : fb = W1.heap.size := Option.some.inj e; omega)).trans z2; have HP' := Lib.hid hp'; clear hp' hp hyk hyS; by_cases hge : n ≤ y * 512))
          | (at_delete; refine wpl_delete_iter _ rfl _ _ rfl kI Tryz.underlying109 y rfl rfl hi1 hyt (fun w2 hi2 hg2 hs2 => ?_)))
        · have fr := (II.out.frm.grown hg1 (fun k e hk => by have := Option.some.inj e; omega)).grown hg2 (fun k e _ => (Option.some.inj e).symm)
          refine ⟨⟨_, _, _, _, _, _, _, _, _, _, _, _, _, _, ⟨_, tk', II.out.gone HP'.out (by omega) fr hi2⟩, rfl⟩, ?_⟩
          rw [hi2.left, hleft]
          have := HP'.out.length_eq
          simp [ent] at this ⊢
          omega
        · have fr := II.out.frm.grown hg1 (fun k e hk => by have := Option.some.inj e; omega)
          refine ⟨⟨ks', tk', II.out.kept HP'.out (by omega) fr hi1⟩, ?_⟩
          rw [hi1.left, hleft]
          have := HP'.out.length_eq
          simp [ent] at this ⊢
          omega
end Go.Proofs.YtpckkdjdjkjapaaGreatDoor.Dw


/- A file is cut: what the memory is then. -/
namespace Go.Proofs.YtpckkdjdjkjapaaGreatDoor.Da
open Go.RowKit Go.ChangeMaps Go.Proofs.YtpckkdjdjkjapaaGreatDoor.Mp Go.Proofs.YtpckkdjdjkjapaaGreatDoor.Dm
set_option linter.unusedVariables false
set_option linter.unusedSimpArgs false
set_option linter.unusedSectionVars false
section
variable {B : Nat} {w w3 : World} {b : Nat} {A : Adr} {lab : Nat → Option Lb} {D : Disk}
theorem DiskAt.truncFile (h : DiskAt B w b A lab D) {i : Nat} {f : FileS} (hf : D.files[i]? = some f) (n : Int) {v1 v2 : Value} (e1 : v1.ownBlock = (A.fa i).sd.ownBlock) (e2 : v2.ownBlock = (A.fa i).ad.ownBlock)
    (hb : w3.heap[(A.fa i).fb]? = some (.cells #[.int .i64 (i + 1 : Nat), v1, .map (some (A.fa i).sb), v2, .map (some (A.fa i).ab), .map (some (A.fa i).wb)] 113 (0, 0)))
    (r1 : w3.ownsRow 0 5 1 v1 (f.seen.take n.toNat).length (u8s (f.seen.take n.toNat))) (r2 : w3.ownsRow 0 5 1 v2 (f.safe.take n.toNat).length (u8s (f.safe.take n.toNat)))
    (s1 : SetAt w3 (A.fa i).sb (cutBad f.badSeen n)) (s2 : SetAt w3 (A.fa i).ab (cutBad f.badSafe n)) (s3 : SetAt w3 (A.fa i).wb (cutBad f.waits n))
    (hfr : Frm (fun k => k = (A.fa i).fb ∨ k = (A.fa i).sb ∨ k = (A.fa i).ab ∨ k = (A.fa i).wb) w w3) : Ext B b lab w w3 (D.modify i (FileS.trunc n)) := by
  have F := h.files i f hf
  refine h.setFile hf (FileS.trunc n) (a' := { A.fa i with sd := v1, ad := v2 }) (lab' := lab) ⟨hb, F.lfb, ⟨r1, fun g hg => F.seen.lab g (by rw [← e1]; exact hg)⟩, ⟨r2, fun g hg => F.safe.lab g (by rw [← e2]; exact hg)⟩, s1, F.lsb, s2, F.lab_, s3, F.lwb⟩ rfl ?_ ?_ ?_ (fun _ _ h => h)
  · intro k p hl hp
    refine ⟨hfr.block k (h.base k p hl).2 ?_, hl⟩
    rintro (e | e | e | e)
    · exact ne_of_lab hl F.lfb (by rintro rfl; exact hp (by simp [isOf])) e
    · exact ne_of_lab hl F.lsb (by rintro rfl; exact hp (by simp [isOf])) e
    · exact ne_of_lab hl F.lab_ (by rintro rfl; exact hp (by simp [isOf])) e
    · exact ne_of_lab hl F.lwb (by rintro rfl; exact hp (by simp [isOf])) e
  · exact fun k p hl => ⟨(h.base k p hl).1, Nat.lt_of_lt_of_le (h.base k p hl).2 hfr.size⟩
  · refine hfr.mono (fun k _ e => ?_)
    unfold Ft
    rcases e with e | e | e | e <;> rw [e]
    · rw [F.lfb]; rfl
    · rw [F.lsb]; rfl
    · rw [F.lab_]; rfl
    · rw [F.lwb]; rfl
end
end Go.Proofs.YtpckkdjdjkjapaaGreatDoor.Da


/- Walks: Truncate's do. -/
namespace Go.Proofs.YtpckkdjdjkjapaaGreatDoor.Dw
open Go.RowKit Go.ChangeMaps Go.Proofs.YtpckkdjdjkjapaaGreatDoor.Mp Go.Proofs.YtpckkdjdjkjapaaGreatDoor.Dm Go.Proofs.YtpckkdjdjkjapaaGreatDoor.Da
set_option linter.unusedVariables false
set_option linter.unusedSimpArgs false
set_option linter.unusedSectionVars false
/-- Sectors' numbers are small (so that their places are numbers). -/
structure FileS.Small (f : FileS) : Prop where
  seen : f.seen.length ≤ 4398046511104
  safe : f.safe.length ≤ 4398046511104
  badSeen : ∀ k, f.badSeen k = true → k < 9007199254740992
  badSafe : ∀ k, f.badSafe k = true → k < 9007199254740992
  waits : ∀ k, f.waits k = true → k < 9007199254740992
set_option maxHeartbeats 1000000 in
set_option maxRecDepth 100000 in
theorem truncate11 {B : Nat} {W : World} {b : Nat} {A : Adr} {lab : Nat → Option Lb} {D : Disk} (h : DiskAt B W b A lab D) (hw : WF D) (n : Name) (hex : (find D.now n).isSome = true) (hsm : ∀ f, f ∈ D.files → FileS.Small f) (k : Int) (hk0 : 0 ≤ k) (hk1 : k ≤ 4611686018427387904)
    (cd cn ck : Nat) (h1 : Cap W lab cd (dptr b)) (h2 : Cap W lab cn (.string n)) (h3 : Cap W lab ck (.int .i64 k)) :
    Calls Tryz.prog 129 #[.pointer (some ⟨cd, 0, none⟩), .pointer (some ⟨cn, 0, none⟩), .pointer (some ⟨ck, 0, none⟩)] W fun e W' => e = .returned (.tuple #[]) ∧ Ext B b lab W W' (D.onFile n (FileS.trunc k)) := by
  have q1 := h1.1
  have q2 := h2.1
  have q3 := h3.1
  obtain ⟨i, hi⟩ := Option.isSome_iff_exists.1 hex
  obtain ⟨f, hf⟩ := WF.file hw hi
  have hd : D.onFile n (FileS.trunc k) = D.modify i (FileS.trunc k) := by simp [Disk.onFile, hi]
  rw [hd]
  have r0 : W.cell? ⟨b, 0, none⟩ = some (.map (some A.nm)) := main_cell h.blk rfl
  obtain ⟨l', hp, hm⟩ := h.names
  have hl := look_names hp hw.nowN A n
  rw [hi] at hl
  have lk : ∀ nq, (Instr.lookup 96 (.map (some A.nm)) (.string n) false).run Tryz.prog (W.drewN nq) = .ok (.pointer (some ⟨(A.fa i).fb, 0, none⟩)) (W.drewN nq) := by
    intro nq
    have hm' : MapAt Value.string (W.drewN nq) A.nm (l'.map fun p => (p.1, fptr A p.2)) := hm.of_block rfl
    have := hm'.lookup kS Tryz.underlying96 (zP _) n false
    rw [this, hl]; rfl
  have F := h.files i f hf
  have hs := hsm f (List.mem_of_getElem? hf)
  clear hl hp hd hi hex hsm hm
  unfold dptr at q1
  have H := Lib.hid h
  have HF := Lib.hid hf
  have HS := Lib.hid hs
  clear h hf hs
  go_enter Tryz.func129, Tryz.ntmps129
  go_wp2
  go_quiet (fail)
  have FN : FileAt (W.drewN nq) lab i (A.fa i) f := F.same (fun _ _ _ _ => rfl)
  have DN : DiskAt B (W.drewN nq) b A lab D := H.out.same (fun _ _ _ => rfl) (Nat.le_refl _)
  have f1 : Frm (Ft lab) W (W.drewN nq) := (Frm.refl _ _).drewN _
  have c3 : Cap (W.drewN nq) lab ck (.int .i64 k) := ⟨h3.1, h3.2⟩
  clear lk F q1 q2 q3 r0 h1 h2 h3
  generalize W.drewN nq = Wn at *
  have q3 := c3.1
  have nsf : (A.fa i).sb ≠ (A.fa i).fb := ne_of_lab FN.lsb FN.lfb (by simp)
  have naf : (A.fa i).ab ≠ (A.fa i).fb := ne_of_lab FN.lab_ FN.lfb (by simp)
  have nwf : (A.fa i).wb ≠ (A.fa i).fb := ne_of_lab FN.lwb FN.lfb (by simp)
  have nas : (A.fa i).ab ≠ (A.fa i).sb := ne_of_lab FN.lab_ FN.lsb (by simp)
  have nws : (A.fa i).wb ≠ (A.fa i).sb := ne_of_lab FN.lwb FN.lsb (by simp)
  have nwa : (A.fa i).wb ≠ (A.fa i).ab := ne_of_lab FN.lwb FN.lab_ (by simp)
  have k1 := cutTo_calls (w := Wn.drew) (fb := (A.fa i).fb) (o := 1) (m := (A.fa i).sb) FN.blk rfl rfl FN.seen.row (fun e => by have := FN.seen.lab _ e; rw [FN.lfb] at this; cases this) FN.badSeen nsf k hk0 hk1 (Nat.le_trans HS.out.seen (by omega)) HS.out.badSeen
  have K1 := Lib.hid k1
  clear k1
  have HFN := Lib.hid FN
  clear FN
  go_wp2_with fail
  go_still_tail 4, (by kernel_rfl)
  change wpList _ _ _ _ _ Wn.drew
  go_wp2_with fail
  refine K1.out.mono ?_
  rintro e W1 ⟨rfl, v1, e1, hb1, hr1, hs1, hf1⟩
  have F := HFN.out
  have hlab : ∀ x p, lab x = some p → x < Wn.heap.size := fun x p hl => by
    have := (H.out.base x p hl).2
    exact Nat.lt_of_lt_of_le this f1.size
  have hckl := c3.lt
  have nck : ck ≠ (A.fa i).fb ∧ ck ≠ (A.fa i).sb ∧ ck ≠ (A.fa i).ab ∧ ck ≠ (A.fa i).wb := by
    refine ⟨?_, ?_, ?_, ?_⟩ <;> intro e
    · have := c3.2; rw [e, F.lfb] at this; cases this
    · have := c3.2; rw [e, F.lsb] at this; cases this
    · have := c3.2; rw [e, F.lab_] at this; cases this
    · have := c3.2; rw [e, F.lwb] at this; cases this
  obtain ⟨g1, g2, g3, g4⟩ := nck
  have z1 : W1.cell? ⟨ck, 0, none⟩ = some (.int .i64 k) := (hf1.cell hckl (fun e => e.elim g1 g2)).trans q3
  have hadW1 : ∀ g, (A.fa i).ad.ownBlock = some g → W1.heap[g]? = Wn.heap[g]? := fun g hg => hf1.block g (hlab _ _ (F.safe.lab g hg)) (fun e => e.elim (ne_of_lab (F.safe.lab g hg) F.lfb (by simp)) (ne_of_lab (F.safe.lab g hg) F.lsb (by simp)))
  have k2 := cutTo_calls (w := W1.drew) (fb := (A.fa i).fb) (o := 3) (m := (A.fa i).ab) hb1 rfl rfl (ownsRow.same F.safe.row hadW1) (fun e => by have := F.safe.lab _ e; rw [F.lfb] at this; cases this)
    (F.badSafe.same (w' := W1.drew) (hf1.block _ (hlab _ _ F.lab_) (fun e => e.elim naf nas))) naf k hk0 hk1 (Nat.le_trans HS.out.safe (by omega)) HS.out.badSafe
  have K2 := Lib.hid k2
  have HR1 := Lib.hid (And.intro hr1 (And.intro hs1 (And.intro hf1 hadW1)))
  clear k2 hr1 hs1 hf1 hadW1 hb1
  go_wp2_with fail
  go_still_tail 4, (by kernel_rfl)
  change wpList _ _ _ _ _ W1.drew
  go_wp2_with fail
  refine K2.out.mono ?_
  rintro e W2 ⟨rfl, v2, e2, hb2, hr2, hs2, hf2⟩
  obtain ⟨hr1, hs1, hf1, hadW1⟩ := HR1.out
  have fb2 : (A.fa i).fb < W1.heap.size := Nat.lt_of_lt_of_le (hlab _ _ F.lfb) hf1.size
  have fb3 : (A.fa i).fb < W2.heap.size := Nat.lt_of_lt_of_le fb2 hf2.size
  have wb1 := hlab _ _ F.lwb
  have wb2 : (A.fa i).wb < W1.heap.size := Nat.lt_of_lt_of_le wb1 hf1.size
  have wb3 : (A.fa i).wb < W2.heap.size := Nat.lt_of_lt_of_le wb2 hf2.size
  have ck2 : ck < W1.heap.size := Nat.lt_of_lt_of_le hckl hf1.size
  have ck3 : ck < W2.heap.size := Nat.lt_of_lt_of_le ck2 hf2.size
  have z2 : W2.cell? ⟨ck, 0, none⟩ = some (.int .i64 k) := (hf2.cell ck2 (fun e => e.elim g1 g3)).trans z1
  have y5 : W2.cell? ⟨(A.fa i).fb, 5, none⟩ = some (.map (some (A.fa i).wb)) := cell_of hb2 rfl
  obtain ⟨ks, hks, hnd, hmem⟩ := F.waits
  change MapAt (Value.int .i64) Wn (A.fa i).wb (ent ks) at hks
  have M2 : MapAt (Value.int .i64) W2 (A.fa i).wb (ent ks) := hks.of_block ((hf2.block _ wb2 (fun e => e.elim nwf nwa)).trans (hf1.block _ wb1 (fun e => e.elim nwf nws)))
  have fin : ∀ w3, Frm (fun x => x = (A.fa i).wb) W2 w3 → SetAt w3 (A.fa i).wb (cutBad f.waits k) → Ext B b lab W w3 (D.modify i (FileS.trunc k)) := by
    intro w3 hf3 hS3
    have sb1 := hlab _ _ F.lsb
    have sb2 : (A.fa i).sb < W1.heap.size := Nat.lt_of_lt_of_le sb1 hf1.size
    have sb3 : (A.fa i).sb < W2.heap.size := Nat.lt_of_lt_of_le sb2 hf2.size
    have ab3 : (A.fa i).ab < W2.heap.size := Nat.lt_of_lt_of_le (Nat.lt_of_lt_of_le (hlab _ _ F.lab_) hf1.size) hf2.size
    have off : ∀ g p, lab g = some p → p ≠ .file i → p ≠ .ab i → p ≠ .wb i → w3.heap[g]? = W1.heap[g]? := fun g p hl p1 p2 p3 =>
      (hf3.block g (Nat.lt_of_lt_of_le (Nat.lt_of_lt_of_le (hlab g p hl) hf1.size) hf2.size) (ne_of_lab hl F.lwb p3)).trans (hf2.block g (Nat.lt_of_lt_of_le (hlab g p hl) hf1.size) (fun e => e.elim (ne_of_lab hl F.lfb p1) (ne_of_lab hl F.lab_ p2)))
    refine Ext.trans f1 (fun _ _ h => h) (DN.truncFile HF.out k e1 e2 ((hf3.block _ fb3 (Ne.symm nwf)).trans hb2) (hr1 w3 ?_) (hr2 w3 ?_) (hs1.same ?_) (hs2.same ?_) hS3 ?_)
    · intro g hg
      have hl := F.seen.lab g hg
      exact (off g _ hl (by simp) (by simp) (by simp)).trans (hf1.block g (hlab g _ hl) (fun e => e.elim (ne_of_lab hl F.lfb (by simp)) (ne_of_lab hl F.lsb (by simp))))
    · intro g hg
      exact off g _ (F.safe.lab g hg) (by simp) (by simp) (by simp)
    · exact off _ _ F.lsb (by simp) (by simp) (by simp)
    · exact hf3.block _ ab3 (Ne.symm nwa)
    · have t1 : Frm (fun x => x = (A.fa i).fb ∨ x = (A.fa i).sb ∨ x = (A.fa i).ab ∨ x = (A.fa i).wb) Wn W1 := ((Frm.refl (fun _ => False) Wn).drew.mono (fun _ _ h => h.elim)).trans hf1 (fun x _ (e : x = (A.fa i).fb ∨ x = (A.fa i).sb) => e.elim .inl (fun e => .inr (.inl e)))
      exact (t1.drew.trans hf2 (fun x _ (e : x = (A.fa i).fb ∨ x = (A.fa i).ab) => e.elim .inl (fun e => .inr (.inr (.inl e))))).trans hf3 (fun x _ e => .inr (.inr (.inr e)))
  have FIN := Lib.hid fin
  have HMem := Lib.hid hmem
  clear fin hr1 hs1 hf1 hadW1 hr2 hs2 hf2 hb2 hmem hks z1 q3 F
  go_wp2_with (first | (at_range; refine wpl_range _ rfl _ rfl Tryz.underlying109 rfl M2 ?_; intro W3 hi2 hg2 hs2))
  have I2 : CutInv W2 W3 (A.fa i).wb W2.heap.size k ks ks ks := ⟨(Frm.of_grown hg2).mono (fun k _ e => by simp at e), hi2, hnd, hnd, fun k => ⟨fun h => ⟨h, .inl h⟩, fun h => h.1⟩, fun _ h => h⟩
  have HI := Lib.hid I2
  clear I2 hi2 hg2 hs2 M2
  go_frame
  go_loopw [] (fun wr => ∃ ks' tk, CutInv W2 wr (A.fa i).wb W2.heap.size k ks ks' tk) (fun wr => leftIn wr W2.heap.size (A.fa i).wb)
  case atStart => exact ⟨ks, ks, HI.out⟩
  case round =>
    obtain ⟨ks', tk, I⟩ := hrel
    have hsz : W2.heap.size < wr.heap.size := by
      obtain ⟨es, cl, sn, _, hh, _⟩ := I.iter
      exact blk_lt hh
    have II := Lib.hid I
    have hI := I.iter
    have x5 : wr.cell? ⟨(A.fa i).fb, 5, none⟩ = some (.map (some (A.fa i).wb)) := (I.frm.cell fb3 (Ne.symm nwf)).trans y5
    have x6 : wr.cell? ⟨ck, 0, none⟩ = some (.int .i64 k) := (I.frm.cell ck3 g4).trans z2
    have hleft := I.iter.left
    clear I
    by_cases h0 : tk = []
    · subst h0
      go_wp2_with (first | (at_next; refine wpl_next _ rfl _ rfl rfl hI (fun h0 => ?_) (fun y vv todo' w1 hp hi1 hg1 hs1 hen => absurd hp.length_eq (by simp [ent]))))
      go_end0
      refine ⟨rfl, FIN.out _ II.out.frm ⟨ks', II.out.iter.map, II.out.nd, fun x => ?_⟩⟩
      rw [II.out.mem x]
      unfold cutBad
      rw [HMem.out x]
      constructor
      · rintro ⟨⟨h1, h2⟩, h3⟩
        refine ⟨h1, ?_⟩
        have h4 : x * 512 < k := by simpa using h3
        rw [h2]; simp; omega
      · rintro ⟨h1, h2⟩
        simp only [Bool.and_eq_true, decide_eq_true_eq] at h2
        exact ⟨⟨h1, h2.1⟩, .inr (by omega)⟩
    · go_wp2_with (first
        | (at_next; refine wpl_next _ rfl _ rfl rfl hI (fun h0x => absurd (List.map_eq_nil_iff.1 h0x) h0) (fun y vv todo' w1 hp hi1 hg1 hs1 hen => ?_); obtain ⟨rfl, tk', rfl, hp'⟩ := ent_perm hp; have hyk := (HMem.out y).1 (II.out.sub y (hp'.mem_iff.2 List.mem_cons_self)); have hyS := HS.out.waits _ hyk.2; have hy0 : 0 ≤ y := hyk.1; have hy1 : y < 9007199254740992 := (by omega); have hyt : y ∉ (ent tk').map (·.1) := (by simpa [ent, Function.comp_def] using (List.nodup_cons.1 (hp'.nodup_iff.1 II.out.ndt)).1); have x7 := (hg1.cell_far ⟨(A.fa i).fb, 5, none⟩ (Nat.lt_of_lt_of_le fb3 II.out.frm.size) (fun e => by have : (A.fa i).fb = W2.heap.size := Option.some.inj e; omega)).trans x5; have x8 := (hg1.cell_far ⟨ck, 0, none⟩ (Nat.lt_of_lt_of_le ck3 II.out.frm.size) (fun e => by have : ck = W2.heap.size := Option.some.inj e; omega)).trans x6; have HP' := Lib.hid hp'; clear hp' hp hyk hyS; by_cases hge : k ≤ y * 512)
        | (at_delete; refine wpl_delete_iter _ rfl _ _ rfl kI Tryz.underlying109 y rfl rfl hi1 hyt (fun w2 hi2 hg2 hs2 => ?_)))
      · have fr := (II.out.frm.grown hg1 (fun x e hk => by have := Option.some.inj e; omega)).grown hg2 (fun x e _ => (Option.some.inj e).symm)
        refine ⟨⟨_, _, _, _, _, _, _, _, _, _, _, _, _, _, ⟨_, tk', II.out.gone HP'.out (by omega) fr hi2⟩, rfl⟩, ?_⟩
        rw [hi2.left, hleft]
        have := HP'.out.length_eq
        simp [ent] at this ⊢
        omega
      · have fr := II.out.frm.grown hg1 (fun x e hk => by have := Option.some.inj e; omega)
        refine ⟨⟨ks', tk', II.out.kept HP'.out (by omega) fr hi1⟩, ?_⟩
        rw [hi1.left, hleft]
        have := HP'.out.length_eq
        simp [ent] at this ⊢
        omega
end Go.Proofs.YtpckkdjdjkjapaaGreatDoor.Dw


/- Truncate, whole (printed by wip/tools/wrap.py). -/
namespace Go.Proofs.YtpckkdjdjkjapaaGreatDoor.Dw
open Go.RowKit Go.ChangeMaps Go.Proofs.YtpckkdjdjkjapaaGreatDoor.Mp Go.Proofs.YtpckkdjdjkjapaaGreatDoor.Dm Go.Proofs.YtpckkdjdjkjapaaGreatDoor.Da
set_option linter.unusedVariables false
set_option linter.unusedSimpArgs false
set_option linter.unusedSectionVars false
set_option maxHeartbeats 1000000 in
set_option maxRecDepth 100000 in
theorem truncate_calls {B : Nat} {w : World} {b : Nat} {A : Adr} {lab : Nat → Option Lb} {D : Disk} {eb : Nat → Addr} {L : List Err} (h : DiskAt B w b A lab D) (he : ErrsAt B w eb L) (hw : WF D) (hb : Bnd D) (n : Name) (k : Int) (hk : -9223372036854775808 ≤ k ∧ k ≤ 9223372036854775807) (hsm : ∀ f, f ∈ D.files → FileS.Small f) :
    Calls Tryz.prog 77 #[dptr b, .string n, .int .i64 k] w fun e W' => e = .returned (errV eb (D.truncate n k).1) ∧ Ext B b lab w W' (D.truncate n k).2 := by
  have hlt : ∀ k p, lab k = some p → k < w.heap.size := fun k p hl => (h.base k p hl).2
  have l0 : ∀ i, lab (w.heap.size + i) = none := by
    intro i
    rcases hc : lab (w.heap.size + i) with _ | p
    · rfl
    · have := hlt _ p hc; omega
  have key : ∀ W0, W0 = (((w.alloc (.cells #[dptr b] 27)).alloc (.cells #[.string n] 9)).alloc (.cells #[.int .i64 k] 3)) →
      Calls Tryz.prog 96 #[dptr b, .func (.func 128) #[] #[.pointer (some ⟨w.heap.size, 0, none⟩), .pointer (some ⟨w.heap.size + 1, 0, none⟩), .pointer (some ⟨w.heap.size + 1 + 1, 0, none⟩)]] W0 fun e W' => e = .returned (errV eb (D.truncate n k).1) ∧ Ext B b lab w W' (D.truncate n k).2 := by
    intro W0 hW0
    have h0 : DiskAt B W0 b A lab D := by rw [hW0]; exact (((h.alloc _).alloc _).alloc _)
    have he0 : ErrsAt B W0 eb L := by rw [hW0]; exact (((he.alloc _).alloc _).alloc _)
    have f0 : Frm (Ft lab) w W0 := by rw [hW0]; exact ((((Frm.refl _ _).alloc _).alloc _).alloc _)
    have c0 : Cap W0 lab w.heap.size (dptr b) := ⟨by rw [hW0]; exact (cell_alloc (cell_alloc (cell_of blk_alloc rfl))), l0 0⟩
    have c1 : Cap W0 lab (w.heap.size + 1) (.string n) := ⟨by
      rw [hW0, show w.heap.size + 1 = (w.alloc (.cells #[dptr b] 27)).heap.size by simp only [World.size_alloc]]
      exact (cell_alloc (cell_of blk_alloc rfl)), l0 1⟩
    have c2 : Cap W0 lab (w.heap.size + 1 + 1) (.int .i64 k) := ⟨by
      rw [hW0, show w.heap.size + 1 + 1 = ((w.alloc (.cells #[dptr b] 27)).alloc (.cells #[.string n] 9)).heap.size by simp only [World.size_alloc]]
      exact (cell_of blk_alloc rfl), l0 2⟩
    have run := run_calls h0 he0 hb.count hb.since 128 #[.pointer (some ⟨w.heap.size, 0, none⟩), .pointer (some ⟨w.heap.size + 1, 0, none⟩), .pointer (some ⟨w.heap.size + 1 + 1, 0, none⟩)] (fun W => by kernel_rfl) (D.refuseTrunc n k) false 129
      #[.pointer (some ⟨w.heap.size, 0, none⟩), .pointer (some ⟨w.heap.size + 1, 0, none⟩), .pointer (some ⟨w.heap.size + 1 + 1, 0, none⟩)] (fun W => by kernel_rfl) (.nilFunc) (Disk.onFile n (FileS.trunc k)) (none)
      (by
        intro W hx
        obtain ⟨A1, lab1, g1, g2, g3⟩ := hx
        refine (truncate1 g1 (he0.frm g2 (Ft.low h0)) hw.tick n k _ _ _ hk (c0.frm g2) (c1.frm g2) (c2.frm g2)).mono ?_
        rintro e W' ⟨rfl, hf⟩
        exact ⟨rfl, Ext.keep ⟨A1, lab1, g1, g2, g3⟩ hf (fun _ _ h => h)⟩)
      (by
        intro h00 W D1 hD1 hx
        obtain ⟨A1, lab1, g1, g2, g3⟩ := hx
        have hw1 : WF D1 := by
          rcases hD1 with rfl | ⟨_, rfl⟩
          · exact hw.tick
          · exact hw.tick.dark
        have hb1 : D1.files.length < 4611686018427387904 ∧ D1.changes.length < 1099511627776 := by rcases hD1 with rfl | ⟨_, rfl⟩ <;> exact ⟨hb.files, hb.changes⟩
        have hex : (find D1.now n).isSome = true := by
          have e : D1.now = D.now := by rcases hD1 with rfl | ⟨_, rfl⟩ <;> rfl
          rw [e]; exact gone_zero (by have := h00; unfold Disk.refuseTrunc at this; split at this; exact this; rename_i hc; exact Decidable.not_not.1 hc)
        have hsm1 : ∀ f, f ∈ D1.files → FileS.Small f := by
          have e : D1.files = D.files := by rcases hD1 with rfl | ⟨_, rfl⟩ <;> rfl
          rw [e]; exact hsm
        have hk2 : 0 ≤ k ∧ k ≤ 4611686018427387904 := trunc_bound hb.len h00
        refine (truncate11 g1 hw1 n hex hsm1 k hk2.1 hk2.2 _ _ _ (c0.ext (B := B) (b := b) g2 g3) (c1.ext (B := B) (b := b) g2 g3) (c2.ext (B := B) (b := b) g2 g3)).mono ?_
        rintro e W' ⟨rfl, hx⟩
        exact ⟨rfl, Ext.trans g2 g3 hx⟩)
      (.inl ⟨rfl, rfl⟩)
    refine run.mono ?_
    rintro e W' ⟨rfl, hx⟩
    exact ⟨rfl, Ext.trans f0 (fun _ _ h => h) hx⟩
  unfold dptr at key ⊢
  have KEY := Lib.hid key
  clear key l0
  go_enter Tryz.func77, Tryz.ntmps77
  go_wp2_with fail
  refine (KEY.out _ rfl).mono ?_
  rintro e W' ⟨rfl, hx⟩
  generalize hev : errV eb (D.truncate n k).1 = ev
  go_wp2
  go_ret
  rw [hev]
  exact ⟨rfl, hx⟩
end Go.Proofs.YtpckkdjdjkjapaaGreatDoor.Dw


/- A disk with its invariants and its measures: the rest of its calls. -/
namespace Go.Proofs.YtpckkdjdjkjapaaGreatDoor.Dm
set_option linter.unusedVariables false
theorem Sz.load {l : List Plain} {n m : Nat} (hn : l.length ≤ n) (hm : ∀ p, p ∈ l → p.data.length ≤ m) : Sz n m (Disk.load l) := by
  refine ⟨by simp [Disk.load]; omega, by simp [Disk.load, Disk.new], by simp [Disk.load, Disk.new], by simp [Disk.load, Disk.new], fun f hf => ?_⟩
  obtain ⟨p, hp, rfl⟩ := List.mem_map.1 hf
  simp only [loadFile, clearBad_len]
  exact hm p hp
end Go.Proofs.YtpckkdjdjkjapaaGreatDoor.Dm
namespace Go.Proofs.YtpckkdjdjkjapaaGreatDoor.Dw
open Go.RowKit Go.ChangeMaps Go.Proofs.YtpckkdjdjkjapaaGreatDoor.Mp Go.Proofs.YtpckkdjdjkjapaaGreatDoor.Dm Go.Proofs.YtpckkdjdjkjapaaGreatDoor.Da
set_option linter.unusedVariables false
set_option linter.unusedSimpArgs false
set_option linter.unusedSectionVars false
theorem small_of {D : Disk} (hi : Inv D) (hl : ∀ f, f ∈ D.files → f.seen.length ≤ 4398046511104) : ∀ f, f ∈ D.files → FileS.Small f := by
  intro f hf
  have hk := hi.files f hf
  have h1 := hl f hf
  have h2 := hk.sub
  have hs : sectors f.seen.length ≤ 4398046511104 := by unfold sectors; omega
  have hs2 : sectors f.safe.length ≤ 4398046511104 := by unfold sectors; omega
  exact ⟨h1, by omega, fun k h => by have := hk.bseen k h; omega, fun k h => by have := hk.bsafe k h; omega, fun k h => by have := hk.wlt k h; omega⟩
section
variable {B : Nat} {w : World} {b : Nat} {lab : Nat → Option Lb} {eb : Nat → Addr} {L : List Err} {n m : Nat} {D : Disk}
theorem Live.truncateW (h : Live B w b lab eb L n m D) (hf : DFit (n + 1) m) (nm : Name) (k : Int) (hk : -9223372036854775808 ≤ k ∧ k ≤ 9223372036854775807) :
    Calls Tryz.prog 77 #[dptr b, .string nm, .int .i64 k] w fun e w' => e = .returned (errV eb (D.truncate nm k).1) ∧ Next B w lab w' b eb L (n + 1) m (D.truncate nm k).2 := by
  obtain ⟨A, h1⟩ := h.dsk
  refine (truncate_calls h1 h.ers h.inv.wf h.bnd nm k hk (small_of h.inv h.bnd.len)).mono ?_
  rintro e w' ⟨he, hx⟩
  exact ⟨he, h.next hx (h.inv.opTruncate nm k) (h.sz.opTruncate nm k) hf⟩
end
/-- Load: a disk of the image, all of it new; or the error. -/
theorem load_live {B : Nat} {w : World} {eb : Nat → Addr} {L : List Err} (he : ErrsAt B w eb L) (hB : B ≤ w.heap.size) (h10 : 10 ∈ L) (v : Value) (l : List Plain) (hv : ImgRd w v l) {n m : Nat} (hn : l.length ≤ n) (hm : ∀ p, p ∈ l → p.data.length ≤ m) (hf : DFit n m)
    (hd : ∀ p, p ∈ l → ∀ x, x ∈ p.data → 0 ≤ x ∧ x < 256) (hnm : ∀ p, p ∈ l → p.name.size ≤ 9223372036854775807) :
    Calls Tryz.prog 12 #[v] w fun e w' => Frm (fun _ => False) w w' ∧ ((Dm.Good l ∧ ∃ b lab, e = .returned (.tuple #[dptr b, .nilIface]) ∧ Live B w' b lab eb L n m (Disk.load l) ∧ ∀ k, Ft lab k → w.heap.size ≤ k) ∨
      (¬ Dm.Good l ∧ e = .returned (.tuple #[.pointer none, errV eb 10]))) := by
  obtain ⟨A, c, rfl, hlc, hC⟩ := hv
  have he' : ErrsAt w.heap.size w eb L := ⟨he.var, he.blk, fun c hc => Nat.lt_of_lt_of_le (he.ebl c hc) hB, fun c hc => Nat.lt_of_lt_of_le (he.low c hc) hB, he.inj, he.six⟩
  refine (load_calls he' h10 l A c hC hlc (by have := hf.fn; omega) (fun p hp => Nat.le_trans (hm p hp) (Nat.le_trans hf.fm (by decide))) hnm).mono ?_
  rintro e w' ⟨hfr, h⟩
  refine ⟨hfr, h.imp (fun ⟨hg, b, A', lab, e1, e2⟩ => ⟨hg, b, lab, e1, ⟨⟨A', e2.lower hB⟩, he.frm hfr (fun _ h => h.elim), Inv.load hg hd, Sz.load hn hm, hf⟩, fun k hk => ?_⟩) id⟩
  obtain ⟨p, hp⟩ := Option.isSome_iff_exists.1 hk
  exact (e2.base k p hp).1
end Go.Proofs.YtpckkdjdjkjapaaGreatDoor.Dw


/- Appending to a segment; cutting it. -/
namespace Go.Proofs.YtpckkdjdjkjapaaGreatDoor.Dw
open Go.RowKit Go.ChangeMaps Go.Proofs.YtpckkdjdjkjapaaGreatDoor.Mp Go.Proofs.YtpckkdjdjkjapaaGreatDoor.Dm Go.Proofs.YtpckkdjdjkjapaaGreatDoor.Da Go.Shelf
open Go.Proofs.YtpckkdjdjkjapaaGreatDoor.Sg (SegS packE)
open Go.Proofs.YtpckkdjdjkjapaaGreatDoorW.PrintWords (ReadsInt string_of_reads)
set_option linter.unusedVariables false
set_option linter.unusedSimpArgs false
set_option linter.unusedSectionVars false
section
variable {B : Nat} {w : World} {b : Nat} {lab : Nat → Option Lb} {eb : Nat → Addr} {L : List Err} {n m : Nat} {D : Disk} {sb : Nat} {s : SegS}
set_option maxRecDepth 100000 in
set_option maxHeartbeats 1000000 in
/-- What stands behind the good blocks is taken off. -/
theorem cut_goes (h : SegL B w b lab eb L n m D sb s) (hs : s.sick = false) (hw : s.whole = false) (hf : DFit (n + 1) m) :
    Calls Tryz.prog 44 #[segP sb] w fun e w' => e = .returned (errV eb (D.truncate s.nm ((s.blocks * 512 : Nat) : Int)).1) ∧ NextS B w lab w' b eb L (n + 1) m (D.truncate s.nm ((s.blocks * 512 : Nat) : Int)).2 sb (if (D.truncate s.nm ((s.blocks * 512 : Nat) : Int)).1 = 0 then { s with whole := true } else s.met (D.truncate s.nm ((s.blocks * 512 : Nat) : Int)).1) := by
  obtain ⟨c0, c1, c2, c3, c4, c5⟩ := h.cell
  rw [hw] at c4
  rw [hs] at c5
  have hbb := h.blo
  obtain ⟨q, hq⟩ : ∃ q : Nat, q = s.blocks * 512 := ⟨_, rfl⟩
  have hq2 : Hid ((s.blocks : Int) * 512 = (q : Int) ∧ q ≤ 9223372036854775807) := Lib.hid ⟨by omega, by omega⟩
  rw [← hq]
  have HQ := Lib.hid hq
  clear hq
  have KS : ∀ W, Frm (fun _ => False) w W → Calls Tryz.prog 77 #[dptr b, .string s.nm, .int .i64 (IntKind.i64.wrap ((s.blocks : Int) * 512))] W fun e w' => e = .returned (errV eb (D.truncate s.nm q).1) ∧ NextS B w lab w' b eb L (n + 1) m (D.truncate s.nm q).2 sb s := fun W hW => by
    have := hq2.out.2
    have e1 : IntKind.i64.wrap ((s.blocks : Int) * 512) = (q : Int) := by have := hq2.out.1; rw [IntKind.wrap_i64]; omega
    rw [e1]
    refine ((h.frm hW).live.truncateW hf s.nm q ⟨by omega, by omega⟩).mono ?_
    rintro e w' ⟨rfl, hn⟩
    exact ⟨rfl, ((h.frm hW).turn hn).from_ hW⟩
  have KS2 := Lib.hid KS
  clear KS
  have S0 : Hid (w.cell? ⟨sb, 0, none⟩ = some (dptr b) ∧ w.cell? ⟨sb, 1, none⟩ = some (.string s.nm) ∧ w.cell? ⟨sb, 3, none⟩ = some (.int .i64 s.blocks)) := Lib.hid ⟨c0, c1, c3⟩
  have KM := Lib.hid (fun (W : World) (hW : NextS B w lab W b eb L (n + 1) m (D.truncate s.nm q).2 sb s) => hW.met_calls (D.truncate s.nm q).1)
  have ZZ : Hid (∀ W (s' : SegS), s'.nm = s.nm → s'.blocks = s.blocks → NextS B w lab W b eb L (n + 1) m (D.truncate s.nm q).2 sb s' → W.cell? ⟨sb, 0, none⟩ = some (dptr b) ∧ W.cell? ⟨sb, 1, none⟩ = some (.string s.nm) ∧ W.cell? ⟨sb, 3, none⟩ = some (.int .i64 s.blocks)) := Lib.hid (fun W s' hs hb hW => by
    obtain ⟨lab', h1⟩ := hW.seg
    exact ⟨h1.cell.1, hs ▸ h1.cell.2.1, hb ▸ h1.cell.2.2.2.1⟩)
  have HBD : Hid (s.nm.size ≤ 9223372036854775807 ∧ s.sick = false ∧ s.next ≤ 9223372036854775807 ∧ s.blocks ≤ 4398046511104) := Lib.hid ⟨h.nm, hs, h.nxt, h.blo⟩
  generalize (D.truncate s.nm q).1 = ca at *
  generalize (D.truncate s.nm q).2 = D2 at *
  clear h hs hw
  unfold segP at *
  by_cases hca : ca = 0
  · subst hca
    rw [if_pos rfl]
    have TT : Hid (∀ W, NextS B w lab W b eb L (n + 1) m D2 sb (s.met 0) → W.cell? ⟨sb, 4, none⟩ = some (.bool s.whole) ∧ W.frozen? ⟨sb, 4, none⟩ = false ∧
        NextS B w lab (W.setCell ⟨sb, 4, none⟩ (.bool true)) b eb L (n + 1) m D2 sb { s with whole := true }) := Lib.hid (fun W hW => by
      obtain ⟨lab1, h1⟩ := hW.seg
      refine ⟨h1.cell.2.2.2.2.1, h1.free 4, hW.trans fun lab2 h2 => h2.put (set_frm _ 4) ?_ HBD.out.1 HBD.out.2.2.1 HBD.out.2.2.2⟩
      rw [blk_set h2.blk]
      unfold segC SegS.met
      simp [HBD.out.2.1])
    simp only [errV_zero] at *
    go_enter Tryz.func44, Tryz.ntmps44
    go_upto_region 7 with (fail)
    go_region_held3 (fun W => W.cell? ⟨sb, 0, none⟩ = some (dptr b) ∧ W.cell? ⟨sb, 1, none⟩ = some (.string s.nm) ∧ W.cell? ⟨sb, 3, none⟩ = some (.int .i64 s.blocks))
      (first | exact S0.out | exact ZZ.out _ s rfl rfl HX.out | exact ZZ.out _ (s.met 0) rfl rfl HY.out | go_keep)
      (first
        | (go_at_call 77; (with_reducible refine (KS2.out _ (by first | exact Frm.refl _ _ | exact (Frm.refl _ _).drew)).mono ?_); rintro e u1 ⟨rfl, f1⟩; have HX := Lib.hid f1; clear f1)
        | (go_at_call 95; (with_reducible refine (KM.out _ HX.out).mono ?_); rintro e u2 ⟨rfl, f2⟩; have HY := Lib.hid f2; clear f2))
    all_goals
      obtain ⟨d2, f2, hlast⟩ := TT.out _ HY.out
      have HLAST := Lib.hid hlast
      clear hlast
      go_wp2
      go_ret
      exact ⟨rfl, HLAST.out⟩
  · rw [if_neg hca]
    have hce : errV eb ca = .iface 320 (.pointer (some (eb ca))) := by unfold errV; rw [if_neg hca]
    simp only [hce] at KS2 KM ⊢
    clear hca hce
    go_enter Tryz.func44, Tryz.ntmps44
    go_upto_region 7 with (fail)
    go_region_held3 (fun W => W.cell? ⟨sb, 0, none⟩ = some (dptr b) ∧ W.cell? ⟨sb, 1, none⟩ = some (.string s.nm) ∧ W.cell? ⟨sb, 3, none⟩ = some (.int .i64 s.blocks))
      (first | exact S0.out | exact ZZ.out _ s rfl rfl HX.out | exact ZZ.out _ (s.met ca) rfl rfl HY.out | go_keep)
      (first
        | (go_at_call 77; (with_reducible refine (KS2.out _ (by first | exact Frm.refl _ _ | exact (Frm.refl _ _).drew)).mono ?_); rintro e u1 ⟨rfl, f1⟩; have HX := Lib.hid f1; clear f1)
        | (go_at_call 95; (with_reducible refine (KM.out _ HX.out).mono ?_); rintro e u2 ⟨rfl, f2⟩; have HY := Lib.hid f2; clear f2))
    all_goals
      go_wp2
      go_ret
      exact ⟨rfl, HY.out⟩
end
end Go.Proofs.YtpckkdjdjkjapaaGreatDoor.Dw


/- Walks: lists of records compared. -/
namespace Go.Proofs.YtpckkdjdjkjapaaGreatDoor.Dw
open Go.RowKit Go.ChangeMaps Go.Proofs.YtpckkdjdjkjapaaGreatDoor.Mp Go.Proofs.YtpckkdjdjkjapaaGreatDoor.Dm Go.Proofs.YtpckkdjdjkjapaaGreatDoor.Da Go.Shelf
open Go.Proofs.YtpckkdjdjkjapaaGreatDoorW.PrintWords (ReadsInt string_of_reads)
set_option linter.unusedVariables false
set_option linter.unusedSimpArgs false
set_option linter.unusedSectionVars false
theorem take_succ_eq {α : Type} {ls ms : List α} {i : Nat} (h : ls.take i = ms.take i) (h1 : i < ls.length) (h2 : i < ms.length) (he : ls[i] = ms[i]) : ls.take (i + 1) = ms.take (i + 1) := by
  rw [List.take_succ_eq_append_getElem h1, List.take_succ_eq_append_getElem h2, h, he]
set_option maxHeartbeats 1000000 in
set_option maxRecDepth 100000 in
theorem lists_calls (w : World) (A1 A2 : Option Addr) (c1 c2 : Nat) (ls ms : List Sg.Bytes) (h1 : RecsAt w A1 ls) (h2 : RecsAt w A2 ms) (hl1 : ls.length ≤ 4611686018427387904) (hl2 : ms.length ≤ 4611686018427387904) (hc1 : ls.length ≤ c1) (hc2 : ms.length ≤ c2)
    (hb1 : ∀ r, r ∈ ls → ∀ x, x ∈ r → 0 ≤ x ∧ x < 256) (hb2 : ∀ r, r ∈ ms → ∀ x, x ∈ r → 0 ≤ x ∧ x < 256) :
    Calls Tryz.prog 37 #[.slice A1 ls.length c1, .slice A2 ms.length c2] w fun e w' => e = .returned (.bool (decide (ls = ms))) ∧ Frm (fun _ => False) w w' := by
  obtain ⟨n1, hn1⟩ : ∃ n, n = ls.length := ⟨_, rfl⟩
  obtain ⟨n2, hn2⟩ : ∃ n, n = ms.length := ⟨_, rfl⟩
  rw [← hn1] at hl1 hc1 ⊢
  rw [← hn2] at hl2 hc2 ⊢
  have HN := Lib.hid (And.intro hn1 hn2)
  have H12 := Lib.hid (And.intro h1 (And.intro h2 (And.intro hb1 hb2)))
  by_cases hne : n1 = n2
  · subst hne
    clear h1 h2 hn1 hn2 hb1 hb2
    have hbeq : ((n1 : Int) != (n1 : Int)) = false := by simp
    go_enter Tryz.func37, Tryz.ntmps37
    go_wp2
    go_loopw [5] (fun iv wr => ∃ i, iv = .int .i64 (i : Nat) ∧ i ≤ n1 ∧ ls.take i = ms.take i ∧ Frm (fun _ => False) w wr) (fun iv _ => n1 - (intOf iv).toNat)
    case atStart => exact ⟨0, rfl, Nat.zero_le _, by simp, Frm.refl _ _⟩
    case round =>
      obtain ⟨i, rfl, hi, htk, hfr⟩ := hrel
      have HR := Lib.hid (And.intro htk hfr)
      clear htk hfr
      by_cases hlt : i < n1
      · obtain ⟨hh1, hh2, hb1, hb2⟩ := H12.out
        obtain ⟨⟨g1, o1, s1⟩, p1, k1, rfl, q1, q2, q3⟩ := hh1 i (by have := HN.out.1; omega)
        obtain ⟨⟨g2, o2, s2⟩, p2, k2, rfl, r1, r2, r3⟩ := hh2 i (by have := HN.out.2; omega)
        obtain rfl : s1 = none := hh1.spot (by have := HN.out.1; omega)
        obtain rfl : s2 = none := hh2.spot (by have := HN.out.2; omega)
        rw [addO] at q1 r1
        obtain ⟨x, hx⟩ : ∃ x, x = ls[i]'(by have := HN.out.1; omega) := ⟨_, rfl⟩
        obtain ⟨y, hy⟩ : ∃ y, y = ms[i]'(by have := HN.out.2; omega) := ⟨_, rfl⟩
        rw [← hx] at q1 q2 q3
        rw [← hy] at r1 r2 r3
        have z1 : ∀ W, Frm (fun _ => False) w W → W.cell? ⟨g1, o1 + i, none⟩ = some (.slice p1 x.length k1) ∧ W.cell? ⟨g2, o2 + i, none⟩ = some (.slice p2 y.length k2) ∧ (convert 40 9 (.slice p1 x.length k1)).run Tryz.prog W = .ok (.string (strOfNums x)) W ∧ (convert 40 9 (.slice p2 y.length k2)).run Tryz.prog W = .ok (.string (strOfNums y)) W := fun W hW =>
          ⟨(hW.cell (World.block_lt_of_cell? _ _ q1) id).trans q1, (hW.cell (World.block_lt_of_cell? _ _ r1) id).trans r1, string_of_reads Tryz.underlying40 Tryz.underlying5 Tryz.underlying9 (reads_frm q3 hW), string_of_reads Tryz.underlying40 Tryz.underlying5 Tryz.underlying9 (reads_frm r3 hW)⟩
        have S0 := Lib.hid (z1 wr HR.out.2)
        have D0 := Lib.hid (z1 wr.drew HR.out.2.drew)
        have hstr : ((strOfNums x).toList == (strOfNums y).toList) = decide (x = y) := strBeq _ _ _ (by
          rw [decide_eq_true_iff]
          exact ⟨fun h => by rw [h], fun h => strInj (hb1 x (by rw [hx]; exact List.getElem_mem _)) (hb2 y (by rw [hy]; exact List.getElem_mem _)) h⟩)
        have HXY := Lib.hid (And.intro hx hy)
        clear q1 q2 q3 r1 r2 r3 z1 hx hy hh1 hh2 hb1 hb2
        by_cases hxy : x = y
        · rw [decide_eq_true hxy] at hstr
          have HE := Lib.hid hxy
          clear hxy
          go_upto_region 6 with (fail)
          go_region_held3 (fun W => W.cell? ⟨g1, o1 + i, none⟩ = some (.slice p1 x.length k1) ∧ W.cell? ⟨g2, o2 + i, none⟩ = some (.slice p2 y.length k2) ∧ (convert 40 9 (.slice p1 x.length k1)).run Tryz.prog W = .ok (.string (strOfNums x)) W ∧ (convert 40 9 (.slice p2 y.length k2)).run Tryz.prog W = .ok (.string (strOfNums y)) W)
            (first | exact S0.out | exact D0.out | go_keep) (fail)
          all_goals
            go_wp2
            have htk2 := take_succ_eq HR.out.1 (by have := HN.out.1; omega) (by have := HN.out.2; omega) (by rw [← HXY.out.1, ← HXY.out.2]; exact HE.out)
            exact ⟨⟨i + 1, by go_num, by omega, htk2, HR.out.2.drew⟩, by simp [intOf]; omega⟩
        · rw [decide_eq_false hxy] at hstr
          have HE := Lib.hid hxy
          clear hxy
          go_upto_region 6 with (fail)
          go_region_held3 (fun W => W.cell? ⟨g1, o1 + i, none⟩ = some (.slice p1 x.length k1) ∧ W.cell? ⟨g2, o2 + i, none⟩ = some (.slice p2 y.length k2) ∧ (convert 40 9 (.slice p1 x.length k1)).run Tryz.prog W = .ok (.string (strOfNums x)) W ∧ (convert 40 9 (.slice p2 y.length k2)).run Tryz.prog W = .ok (.string (strOfNums y)) W)
            (first | exact S0.out | exact D0.out | go_keep) (fail)
          all_goals
            go_wp2
            go_ret
            refine ⟨?_, HR.out.2.drew⟩
            have e : ¬ ls = ms := fun e => HE.out (by rw [HXY.out.1, HXY.out.2]; simp only [e])
            rw [decide_eq_false e]
            rfl
      · obtain rfl : i = n1 := by omega
        go_wp2
        go_ret
        refine ⟨?_, HR.out.2⟩
        have e : ls = ms := by
          have := HR.out.1
          rwa [List.take_of_length_le (by have := HN.out.1; omega), List.take_of_length_le (by have := HN.out.2; omega)] at this
        rw [decide_eq_true e]
        rfl
  · have hne2 : ¬ ls = ms := fun e => hne (by rw [hn1, hn2, e])
    have hd : decide (ls = ms) = false := decide_eq_false hne2
    rw [hd]
    have hbeq : ((n1 : Int) == (n2 : Int)) = false := by simp; omega
    clear h1 h2 hn1 hn2 hb1 hb2 hne2 hd
    go_enter Tryz.func37, Tryz.ntmps37
    go_wp2
    go_ret
    exact ⟨rfl, Frm.refl _ _⟩
end Go.Proofs.YtpckkdjdjkjapaaGreatDoor.Dw
