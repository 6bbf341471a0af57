/- A part of the proof of diskDown_holds: Dm, Dp, Dp2, Dp3, Dp4, Dp5, Dp6, Er0, Et, Et2. No condition. -/

/- The disk as plain data: what each call does (no program in sight). -/
namespace Go.Proofs.YtglhedahannjiaaGreatDoor.Dm
set_option linter.unusedVariables false
abbrev Name := ByteArray
/-- How many sectors n bytes have. -/
def sectors (n : Nat) : Nat := (n + 511) / 512
/-- A file: its bytes as seen and as safe; sector by sector: can't it be read (as seen, as safe), does it wait. -/
structure FileS where
  seen : List Int
  safe : List Int
  badSeen : Nat → Bool
  badSafe : Nat → Bool
  waits : Nat → Bool
def FileS.new : FileS := ⟨[], [], fun _ => false, fun _ => false, fun _ => false⟩
/-- A change of names that waits: this name goes, this name leads to that file. -/
structure Chg where
  del : Option Name
  put : Option (Name × Nat)
structure Disk where
  files : List FileS
  now : List (Name × Nat)
  sure : List (Name × Nat)
  changes : List Chg
  fails : List (Int × Int)
  cut : Int
  since : Nat
  count : Nat
  off : Bool
def Disk.new : Disk := ⟨[], [], [], [], [], 0, 0, 0, false⟩
/-- The errors by number (0: none), as the references number them. -/
abbrev Err := Nat
abbrev eArg : Err := 1
abbrev eIo : Err := 6
abbrev eDown : Err := 7
abbrev eGone : Err := 8
abbrev eThere : Err := 9
def good (n : Name) : Bool := decide (1 ≤ n.size) && decide (n.size ≤ 64)
def find (l : List (Name × Nat)) (n : Name) : Option Nat := (l.find? fun p => decide (p.1 = n)).map (·.2)
def erase (l : List (Name × Nat)) (n : Name) : List (Name × Nat) := l.filter fun p => !decide (p.1 = n)
def put (l : List (Name × Nat)) (n : Name) (i : Nat) : List (Name × Nat) := erase l n ++ [(n, i)]
def apply (l : List (Name × Nat)) (c : Chg) : List (Name × Nat) :=
  let l1 := match c.del with | some n => erase l n | none => l
  match c.put with | some (n, i) => put l1 n i | none => l1
/-- The names behind the first n changes that wait. -/
def Disk.left (d : Disk) (n : Nat) : List (Name × Nat) := (d.changes.take n).foldl apply d.sure
/-- One operation more. -/
def Disk.tick (d : Disk) : Disk := { d with count := d.count + 1, since := d.since + 1 }
/-- The power goes. -/
def Disk.dark (d : Disk) : Disk := { d with off := true }
inductive What where
  | goes
  | cut
  | fails (part : Int)
def Disk.armed (d : Disk) : What :=
  if (d.since : Int) = d.cut then .cut else
  match d.fails.find? fun p => decide (p.1 = (d.since : Int)) with
  | some p => .fails p.2
  | none => .goes
def failTo (ref : Err) (n : Int) (part : Option (Int → Disk → Disk)) (d : Disk) : Disk := match part with | some p => if ref = 0 then p n d else d | none => d
/-- An operation: why it is refused, what it does, whether it is done when the power goes in it, what is done when it fails. -/
def Disk.run (d : Disk) (refused : Err) (act : Disk → Disk) (waits : Bool) (part : Option (Int → Disk → Disk)) : Err × Disk :=
  if d.off = true then (eDown, d) else
  match d.tick.armed with
  | .cut => (eDown, if refused = 0 ∧ waits = true then act d.tick.dark else d.tick.dark)
  | .fails n => (eIo, failTo refused n part d.tick)
  | .goes => if refused = 0 then (0, act d.tick) else (refused, d.tick)
def Disk.gone (d : Disk) (n : Name) : Err := if (find d.now n).isSome then 0 else eGone
def Disk.modify (d : Disk) (i : Nat) (f : FileS → FileS) : Disk := { d with files := d.files.modify i f }
def Disk.doCreate (n : Name) (d : Disk) : Disk :=
  { d with files := d.files ++ [FileS.new], now := put d.now n d.files.length, changes := d.changes ++ [⟨none, some (n, d.files.length)⟩] }
def Disk.refuseCreate (d : Disk) (n : Name) : Err := if good n = false then eArg else if (find d.now n).isSome then eThere else 0
def Disk.create (d : Disk) (n : Name) : Err × Disk := d.run (d.refuseCreate n) (Disk.doCreate n) true none
/-- Data behind a file's bytes. -/
def FileS.add (data : List Int) (f : FileS) : FileS :=
  if data = [] then f else
  { f with seen := f.seen ++ data,
           badSeen := fun k => f.badSeen k && !(decide (f.seen.length / 512 ≤ k) && decide (k < sectors (f.seen.length + data.length))),
           waits := fun k => f.waits k || (decide (f.seen.length / 512 ≤ k) && decide (k < sectors (f.seen.length + data.length))) }
def Disk.onFile (n : Name) (g : FileS → FileS) (d : Disk) : Disk := match find d.now n with | some i => d.modify i g | none => d
def Disk.append (d : Disk) (n : Name) (data : List Int) : Err × Disk :=
  d.run (d.gone n) (Disk.onFile n (FileS.add data)) true (some fun p => Disk.onFile n (FileS.add (data.take p.toNat)))
def FileS.sync (f : FileS) : FileS := { f with safe := f.seen, badSafe := f.badSeen, waits := fun _ => false }
def Disk.sync (d : Disk) (n : Name) : Err × Disk := d.run (d.gone n) (Disk.onFile n FileS.sync) false none
def cutBad (b : Nat → Bool) (n : Int) : Nat → Bool := fun k => b k && decide ((k : Int) * 512 < n)
def FileS.trunc (n : Int) (f : FileS) : FileS :=
  { seen := f.seen.take n.toNat, safe := f.safe.take n.toNat, badSeen := cutBad f.badSeen n, badSafe := cutBad f.badSafe n, waits := cutBad f.waits n }
def Disk.seenLen (d : Disk) (n : Name) : Nat := match find d.now n with | some i => (d.files[i]?.map (·.seen.length)).getD 0 | none => 0
def Disk.refuseTrunc (d : Disk) (n : Name) (k : Int) : Err :=
  if d.gone n ≠ 0 then d.gone n else if k < 0 ∨ k % 512 ≠ 0 ∨ k > d.seenLen n then eArg else 0
def Disk.truncate (d : Disk) (n : Name) (k : Int) : Err × Disk := d.run (d.refuseTrunc n k) (Disk.onFile n (FileS.trunc k)) false none
def Disk.doRename (a b : Name) (d : Disk) : Disk :=
  if a = b then d else match find d.now a with
  | some i => { d with now := put (erase d.now a) b i, changes := d.changes ++ [⟨some a, some (b, i)⟩] }
  | none => d
def Disk.refuseRename (d : Disk) (a b : Name) : Err := if good b = false then eArg else d.gone a
def Disk.rename (d : Disk) (a b : Name) : Err × Disk := d.run (d.refuseRename a b) (Disk.doRename a b) true none
def Disk.doRemove (n : Name) (d : Disk) : Disk := { d with now := erase d.now n, changes := d.changes ++ [⟨some n, none⟩] }
def Disk.remove (d : Disk) (n : Name) : Err × Disk := d.run (d.gone n) (Disk.doRemove n) true none
def Disk.doSyncNames (d : Disk) : Disk := { d with sure := d.left d.changes.length, changes := [] }
def Disk.syncNames (d : Disk) : Err × Disk := d.run 0 Disk.doSyncNames false none
def Disk.arm (d : Disk) (fails : List (Int × Int)) (cut : Int) : Disk := if d.off = true then d else { d with fails := fails, cut := cut, since := 0 }
/-- A file of an image: its name, its bytes, the numbers of its bad sectors. -/
structure Plain where
  name : Name
  data : List Int
  bad : List Int
/-- The numbers below m for which b says yes, rising. -/
def numbers (b : Nat → Bool) (m : Nat) : List Int := ((List.range m).filter b).map fun k : Nat => (k : Int)
/-- A file's bytes and its sectors that can't be read. -/
structure Side where
  data : List Int
  bad : Nat → Bool
def plain (n : Name) (s : Side) : Plain := ⟨n, s.data, numbers s.bad (sectors s.data.length)⟩
def nameLe (a b : Name) : Bool := decide (a.data.toList ≤ b.data.toList)
def inOrder (l : List (Name × Nat)) : List (Name × Nat) := l.mergeSort fun a b => nameLe a.1 b.1
def Disk.file (d : Disk) (i : Nat) : FileS := (d.files[i]?).getD FileS.new
def Disk.seenImg (d : Disk) : List Plain :=
  if d.off = true then [] else (inOrder d.now).map fun p => plain p.1 ⟨(d.file p.2).seen, (d.file p.2).badSeen⟩
theorem tick_now (d : Disk) : d.tick.now = d.now := rfl
end Go.Proofs.YtglhedahannjiaaGreatDoor.Dm

/- The disk as plain data: what a loss of power leaves, what is seen, what an image loads to. -/
namespace Go.Proofs.YtglhedahannjiaaGreatDoor.Dm
set_option linter.unusedVariables false
/-- The sectors that wait, rising. -/
def waitList (f : FileS) : List Nat := (List.range (sectors f.seen.length)).filter f.waits
/-- What one waiting sector's fate does. -/
def setSector (seen : List Int) (k : Nat) (fate : Int) (s : Side) : Side :=
  if fate = 0 then s else
  let to := min ((k + 1) * 512) seen.length
  let d1 := s.data ++ List.replicate (to - s.data.length) 0
  let e := min ((k + 1) * 512) d1.length
  let d2 := d1.take (k * 512) ++ List.replicate (e - k * 512) 0 ++ d1.drop e
  if fate = 1 then ⟨d2.take (k * 512) ++ (seen.take to).drop (k * 512) ++ d2.drop to, fun j => s.bad j && !decide (j = k)⟩
  else ⟨d2, fun j => s.bad j || decide (j = k)⟩
def fatedBy (seen : List Int) : List (Nat × Int) → Side → Side
  | [], s => s
  | p :: l, s => fatedBy seen l (setSector seen p.1 p.2 s)
/-- What fates leave of a file. -/
def FileS.fated (f : FileS) (fates : List Int) : Side := fatedBy f.seen ((waitList f).zip fates) ⟨f.safe, f.badSafe⟩
/-- n fates from a place on; where none is told, it is 0. -/
def fatesFrom (fs : List Int) (from_ n : Nat) : List Int := (List.range n).map fun j => (fs[from_ + j]?).getD 0
def sidesBy (D : Disk) (fs : List Int) : List (Name × Nat) → Nat → List (Name × Side)
  | [], _ => []
  | p :: l, c => (p.1, (D.file p.2).fated (fatesFrom fs c (waitList (D.file p.2)).length)) :: sidesBy D fs l (c + (waitList (D.file p.2)).length)
def byBirth (l : List (Name × Nat)) : List (Name × Nat) := l.mergeSort fun a b => decide (a.2 ≤ b.2)
def sideOf (l : List (Name × Side)) (n : Name) : Side := ((l.find? fun p => decide (p.1 = n)).map (·.2)).getD ⟨[], fun _ => false⟩
/-- What a loss of power leaves. -/
def Disk.crash (D : Disk) (fs : List Int) (k : Int) : List Plain :=
  (inOrder (D.left k.toNat)).map fun p => plain p.1 (sideOf (sidesBy D fs (byBirth (D.left k.toNat)) 0) p.1)
def Disk.waitingN (D : Disk) : Nat := (D.now.map fun p => (waitList (D.file p.2)).length).sum
/-- The bytes of sector k are zeros. -/
def clearAt (k : Nat) (d : List Int) : List Int := d.take (k * 512) ++ List.replicate (min ((k + 1) * 512) d.length - k * 512) 0 ++ d.drop (min ((k + 1) * 512) d.length)
def clearBad : List Int → List Int → List Int
  | [], d => d
  | k :: l, d => clearBad l (clearAt k.toNat d)
def loadFile (p : Plain) : FileS := ⟨clearBad p.bad p.data, clearBad p.bad p.data, fun k => decide ((k : Int) ∈ p.bad), fun k => decide ((k : Int) ∈ p.bad), fun _ => false⟩
def badOk (p : Plain) : Prop := p.bad.Pairwise (· < ·) ∧ ∀ k, k ∈ p.bad → 0 ≤ k ∧ k < (sectors p.data.length : Nat)
def nameLt (a b : Name) : Prop := a.data.toList < b.data.toList
/-- A list of files that is an image. -/
structure Good (l : List Plain) : Prop where
  names : ∀ p, p ∈ l → good p.name = true
  order : (l.map (·.name)).Pairwise nameLt
  bads : ∀ p, p ∈ l → badOk p
def named : List Plain → Nat → List (Name × Nat)
  | [], _ => []
  | p :: l, i => (p.name, i) :: named l (i + 1)
def Disk.load (l : List Plain) : Disk := { Disk.new with files := l.map loadFile, now := named l 0, sure := named l 0 }
end Go.Proofs.YtglhedahannjiaaGreatDoor.Dm

/- The pure disk: what the fates of its sectors leave of a file, byte by byte. -/
namespace Go.Proofs.YtglhedahannjiaaGreatDoor.Dm
set_option linter.unusedVariables false
/-- The fate of sector j (0 where none is told). -/
def fateOf : List (Nat × Int) → Nat → Int
  | [], _ => 0
  | p :: l, j => if p.1 = j then p.2 else fateOf l j
/-- How long the file is then. -/
def longTo (n : Nat) : List (Nat × Int) → Nat → Nat
  | [], L => L
  | p :: l, L => longTo n l (if p.2 = 0 then L else max L (min ((p.1 + 1) * 512) n))
/-- Byte i. -/
def byteOf (seen safe : List Int) (W : Nat → Int) (i : Nat) : Int := if W (i / 512) = 0 then safe.getD i 0 else if W (i / 512) = 1 then seen.getD i 0 else 0
theorem eq_range {l : List Int} {n : Nat} {g : Nat → Int} (hl : l.length = n) (h : ∀ i, i < n → l[i]? = some (g i)) : l = (List.range n).map g := by
  apply List.ext_getElem?
  intro i
  rcases Nat.lt_or_ge i n with hi | hi
  · rw [h i hi, List.getElem?_map, List.getElem?_range hi]; rfl
  · rw [List.getElem?_eq_none (by omega), List.getElem?_eq_none (by simp; omega)]
theorem range_get {n : Nat} {g : Nat → Int} {i : Nat} (hi : i < n) : ((List.range n).map g)[i]? = some (g i) := by
  rw [List.getElem?_map, List.getElem?_range hi]; rfl
/-- One sector's fate, byte by byte. -/
theorem setSector_data {seen : List Int} {k : Nat} {fate : Int} {s : Side} {L : Nat} {g : Nat → Int} (hd : s.data = (List.range L).map g) (hL : L ≤ seen.length) (hk : k * 512 < seen.length)
    (hz : ∀ i, L ≤ i → i < seen.length → i / 512 ≠ k → g i = 0) (hf : fate ≠ 0) :
    (setSector seen k fate s).data = (List.range (max L (min ((k + 1) * 512) seen.length))).map fun i => if i / 512 = k then (if fate = 1 then seen.getD i 0 else 0) else g i := by
  generalize hT : min ((k + 1) * 512) seen.length = T
  have hlen : s.data.length = L := by rw [hd]; simp
  have hT1 : k * 512 < T := by omega
  have hT2 : T ≤ seen.length := by omega
  generalize hd1 : s.data ++ List.replicate (T - s.data.length) 0 = d1
  have hl1 : d1.length = max L T := by rw [← hd1]; simp [hlen]; omega
  have he : min ((k + 1) * 512) d1.length = T := by rw [hl1]; omega
  generalize hd2 : d1.take (k * 512) ++ List.replicate (T - k * 512) 0 ++ d1.drop T = d2
  have hl2 : d2.length = max L T := by rw [← hd2]; simp [hl1]; omega
  have g1 : ∀ i, i < max L T → d1[i]? = some (if i < L then g i else 0) := by
    intro i hi
    rw [← hd1]
    rcases Nat.lt_or_ge i L with h | h
    · rw [List.getElem?_append_left (by omega), hd, range_get h, if_pos h]
    · rw [List.getElem?_append_right (by omega), if_neg (by omega), List.getElem?_replicate, if_pos (by omega)]
  have g2 : ∀ i, i < max L T → d2[i]? = some (if k * 512 ≤ i ∧ i < T then 0 else if i < L then g i else 0) := by
    intro i hi
    rw [← hd2]
    rcases Nat.lt_or_ge i (k * 512) with h | h
    · rw [List.append_assoc, List.getElem?_append_left (by simp [hl1]; omega), List.getElem?_take_of_lt h, g1 i hi, if_neg (c := k * 512 ≤ i ∧ i < T) (by omega)]
    · rcases Nat.lt_or_ge i T with h2 | h2
      · rw [List.getElem?_append_left (by simp [hl1]; omega), List.getElem?_append_right (by simp [hl1]; omega), List.getElem?_replicate, if_pos (by simp [hl1]; omega), if_pos ⟨h, h2⟩]
      · rw [List.getElem?_append_right (by simp [hl1]; omega), List.getElem?_drop, if_neg (c := k * 512 ≤ i ∧ i < T) (by omega)]
        rw [← g1 i hi]; congr 1; simp [hl1]; omega
  have hin : ∀ i, i < max L T → (i / 512 = k ↔ k * 512 ≤ i ∧ i < T) := by intro i hi; omega
  have fin : ∀ i, i < max L T → (if i / 512 = k then (0 : Int) else g i) = if k * 512 ≤ i ∧ i < T then 0 else if i < L then g i else 0 := by
    intro i hi
    by_cases h : i / 512 = k
    · rw [if_pos h, if_pos ((hin i hi).1 h)]
    · rw [if_neg h, if_neg (fun e => h ((hin i hi).2 e))]
      split
      · rfl
      · exact hz i (by omega) (by omega) h
  unfold setSector
  simp only [hf, if_false, hT, hd1, he, hd2]
  by_cases h1 : fate = 1
  · simp only [h1, if_true]
    refine eq_range (by simp [hl2]; omega) fun i hi => ?_
    have hl3 : (d2.take (k * 512)).length = k * 512 := by rw [List.length_take, hl2]; exact Nat.min_eq_left (Nat.le_trans (Nat.le_of_lt hT1) (Nat.le_max_right _ _))
    have hl4 : ((seen.take T).drop (k * 512)).length = T - k * 512 := by simp; omega
    rcases Nat.lt_or_ge i (k * 512) with h | h
    · rw [List.append_assoc, List.getElem?_append_left (by omega), List.getElem?_take_of_lt h, g2 i hi, if_neg (c := k * 512 ≤ i ∧ i < T) (by omega), if_neg (c := i / 512 = k) (by omega)]
      congr 1
      split
      · rfl
      · exact (hz i (by omega) (by omega) (by omega)).symm
    · rcases Nat.lt_or_ge i T with h2 | h2
      · rw [List.getElem?_append_left (by rw [List.length_append, hl3, hl4, Nat.add_sub_of_le (Nat.le_of_lt hT1)]; first | exact h2 | omega), List.getElem?_append_right (by omega), List.getElem?_drop, hl3, if_pos ((hin i hi).2 ⟨h, h2⟩)]
        rw [show k * 512 + (i - k * 512) = i by omega, List.getElem?_take_of_lt h2, List.getD_eq_getElem?_getD, List.getElem?_eq_getElem (by omega)]
        rfl
      · rw [List.getElem?_append_right (by rw [List.length_append, hl3, hl4, Nat.add_sub_of_le (Nat.le_of_lt hT1)]; first | exact h2 | omega), List.getElem?_drop, if_neg (c := i / 512 = k) (by omega)]
        have : T + (i - (List.take (k * 512) d2 ++ List.drop (k * 512) (List.take T seen)).length) = i := by rw [List.length_append, hl3, hl4]; omega
        rw [this, g2 i hi, if_neg (c := k * 512 ≤ i ∧ i < T) (by omega)]
        congr 1
        split
        · rfl
        · exact (hz i (by omega) (by omega) (by omega)).symm
  · simp only [h1, if_false]
    exact eq_range hl2 fun i hi => by rw [g2 i hi, fin i hi]
theorem setSector_zero {seen : List Int} {k : Nat} {s : Side} : setSector seen k 0 s = s := by unfold setSector; rw [if_pos rfl]
theorem setSector_bad {seen : List Int} {k : Nat} {fate : Int} {s : Side} (j : Nat) : (setSector seen k fate s).bad j = if j = k ∧ fate ≠ 0 then decide (fate ≠ 1) else s.bad j := by
  unfold setSector
  by_cases h0 : fate = 0
  · simp [h0]
  · by_cases h1 : fate = 1 <;> by_cases hj : j = k <;> simp [h0, h1, hj]
theorem fateOf_none {l : List (Nat × Int)} {j : Nat} (h : j ∉ l.map (·.1)) : fateOf l j = 0 := by
  induction l with
  | nil => rfl
  | cons p l ih =>
    simp only [List.map_cons, List.mem_cons, not_or] at h
    unfold fateOf
    rw [if_neg (Ne.symm h.1), ih h.2]
theorem longTo_le (n : Nat) : ∀ (l : List (Nat × Int)) (L : Nat), L ≤ longTo n l L
  | [], L => Nat.le_refl _
  | p :: l, L => by
    unfold longTo
    refine Nat.le_trans ?_ (longTo_le n l _)
    split <;> omega
theorem longTo_max {n : Nat} : ∀ (l : List (Nat × Int)) (L : Nat), L ≤ n → longTo n l L ≤ n
  | [], L, h => h
  | p :: l, L, h => by
    unfold longTo
    exact longTo_max l _ (by split <;> omega)
theorem longTo_mem {n : Nat} : ∀ (l : List (Nat × Int)) (L : Nat) (p : Nat × Int), p ∈ l → p.2 ≠ 0 → min ((p.1 + 1) * 512) n ≤ longTo n l L
  | q :: l, L, p, h, h0 => by
    rcases List.mem_cons.1 h with rfl | h
    · unfold longTo
      rw [if_neg h0]
      exact Nat.le_trans (Nat.le_max_right _ _) (longTo_le n l _)
    · unfold longTo
      exact longTo_mem l _ p h h0
/-- All fates, byte by byte. -/
theorem fatedBy_eq (seen safe : List Int) : ∀ (l : List (Nat × Int)) (W : Nat → Int) (s : Side) (L : Nat), (l.map (·.1)).Nodup → (∀ p, p ∈ l → p.1 * 512 < seen.length) → (∀ p, p ∈ l → W p.1 = 0) → safe.length ≤ L → L ≤ seen.length →
    (∀ j, W j ≠ 0 → min ((j + 1) * 512) seen.length ≤ L) → s.data = (List.range L).map (byteOf seen safe W) →
    (fatedBy seen l s).data = (List.range (longTo seen.length l L)).map (byteOf seen safe fun j => if W j ≠ 0 then W j else fateOf l j) ∧
    ∀ j, (fatedBy seen l s).bad j = if fateOf l j ≠ 0 then decide (fateOf l j ≠ 1) else s.bad j
  | [], W, s, L, _, _, _, _, _, _, hd => by
    refine ⟨?_, fun j => by simp [fatedBy, fateOf]⟩
    simp only [fatedBy, longTo, fateOf]
    rw [hd]
    congr 1
    funext i
    unfold byteOf
    by_cases h : W (i / 512) = 0 <;> simp [h]
  | p :: l, W, s, L, hn, hk, hW, hs, hL, hWL, hd => by
    obtain ⟨k, fate⟩ := p
    simp only [List.map_cons, List.nodup_cons] at hn
    have hkk : k * 512 < seen.length := hk (k, fate) List.mem_cons_self
    have hWk : W k = 0 := hW _ List.mem_cons_self
    simp only [fatedBy, longTo]
    by_cases hf : fate = 0
    · subst hf
      rw [setSector_zero, if_pos rfl]
      obtain ⟨h1, h2⟩ := fatedBy_eq seen safe l W s L hn.2 (fun p hp => hk p (List.mem_cons_of_mem _ hp)) (fun p hp => hW p (List.mem_cons_of_mem _ hp)) hs hL hWL hd
      have hfo : ∀ j, fateOf ((k, 0) :: l) j = fateOf l j := by
        intro j
        show (if k = j then 0 else fateOf l j) = _
        by_cases h : k = j
        · rw [if_pos h, ← h, fateOf_none hn.1]
        · rw [if_neg h]
      rw [h1]
      refine ⟨by congr 2; funext j; rw [hfo], fun j => by rw [h2, hfo]⟩
    · rw [if_neg hf]
      have hz : ∀ i, L ≤ i → i < seen.length → i / 512 ≠ k → byteOf seen safe W i = 0 := by
        intro i hi hi2 _
        have : W (i / 512) = 0 := by
          rcases Decidable.em (W (i / 512) = 0) with h | h
          · exact h
          · have := hWL _ h; omega
        unfold byteOf
        rw [if_pos this, List.getD_eq_getElem?_getD, List.getElem?_eq_none (by omega)]; rfl
      have hs1 := setSector_data (fate := fate) hd hL hkk hz hf
      have hW' : ∀ i, (if i / 512 = k then (if fate = 1 then seen.getD i 0 else 0) else byteOf seen safe W i) = byteOf seen safe (fun j => if j = k then fate else W j) i := by
        intro i
        unfold byteOf
        by_cases h : i / 512 = k <;> simp [h, hf]
      have hs2 : (setSector seen k fate s).data = (List.range (max L (min ((k + 1) * 512) seen.length))).map (byteOf seen safe (fun j => if j = k then fate else W j)) := by
        rw [hs1]; congr 1; funext i; exact hW' i
      obtain ⟨h1, h2⟩ := fatedBy_eq seen safe l (fun j => if j = k then fate else W j) (setSector seen k fate s) (max L (min ((k + 1) * 512) seen.length)) hn.2 (fun p hp => hk p (List.mem_cons_of_mem _ hp))
        (fun p hp => by
          have : p.1 ≠ k := fun e => hn.1 (by rw [← e]; exact List.mem_map_of_mem hp)
          simp only [this, if_false]; exact hW p (List.mem_cons_of_mem _ hp)) (by omega) (by omega)
        (fun j hj => by
          by_cases h : j = k
          · subst h; omega
          · simp only [h, if_false] at hj; have := hWL j hj; omega) hs2
      rw [h1]
      constructor
      · congr 2
        funext j
        by_cases h : j = k
        · subst h; simp [hf, hWk, fateOf]
        · have : ¬ k = j := fun e => h e.symm
          simp [h, fateOf, this]
      · intro j
        rw [h2, setSector_bad]
        by_cases h : j = k
        · subst h; simp [fateOf_none hn.1, fateOf, hf]
        · have : ¬ k = j := fun e => h e.symm
          simp [h, fateOf, this]
theorem waitList_nodup (f : FileS) : (waitList f).Nodup := List.nodup_range.filter _
theorem waitList_mem {f : FileS} {k : Nat} : k ∈ waitList f ↔ k < sectors f.seen.length ∧ f.waits k = true := by unfold waitList; simp
theorem zip_map_nodup {ks : List Nat} {fs : List Int} (h : ks.Nodup) : ((ks.zip fs).map (·.1)).Nodup := by
  have : ∀ (ks : List Nat) (fs : List Int), ((ks.zip fs).map (·.1)).Sublist ks := by
    intro ks
    induction ks with
    | nil => intro fs; simp
    | cons k ks ih =>
      intro fs
      cases fs with
      | nil => simp
      | cons a fs => simpa using (ih fs)
  exact h.sublist (this ks fs)
theorem zip_mem {ks : List Nat} {fs : List Int} {p : Nat × Int} (h : p ∈ ks.zip fs) : p.1 ∈ ks := (List.of_mem_zip (a := p.1) (b := p.2) h).1
/-- What fates leave of a file, byte by byte. -/
theorem fated_eq (f : FileS) (hs : f.safe.length ≤ f.seen.length) (fates : List Int) :
    (f.fated fates).data = (List.range (longTo f.seen.length ((waitList f).zip fates) f.safe.length)).map (byteOf f.seen f.safe (fateOf ((waitList f).zip fates))) ∧
    ∀ j, (f.fated fates).bad j = if fateOf ((waitList f).zip fates) j ≠ 0 then decide (fateOf ((waitList f).zip fates) j ≠ 1) else f.badSafe j := by
  have hm : ∀ p, p ∈ (waitList f).zip fates → p.1 * 512 < f.seen.length := by
    intro p hp
    have := (waitList_mem.1 (zip_mem hp)).1
    unfold sectors at this; omega
  obtain ⟨h1, h2⟩ := fatedBy_eq f.seen f.safe ((waitList f).zip fates) (fun _ => 0) ⟨f.safe, f.badSafe⟩ f.safe.length (zip_map_nodup (waitList_nodup f)) hm (fun _ _ => rfl) (Nat.le_refl _) hs (fun _ h => absurd rfl h)
    (eq_range rfl fun i hi => by simp [byteOf, List.getElem?_eq_getElem hi])
  unfold FileS.fated
  refine ⟨?_, h2⟩
  rw [h1]
  congr 2
end Go.Proofs.YtglhedahannjiaaGreatDoor.Dm

/- The pure disk: what holds of every disk that the calls make. -/
namespace Go.Proofs.YtglhedahannjiaaGreatDoor.Dm
set_option linter.unusedVariables false
/-- What holds of every file. -/
structure FOK (f : FileS) : Prop where
  sub : f.safe.length ≤ f.seen.length
  agree : ∀ i, f.waits (i / 512) = false → f.seen[i]? = f.safe[i]?
  agreeBad : ∀ k, f.waits k = false → f.badSeen k = f.badSafe k
  wlt : ∀ k, f.waits k = true → k < sectors f.seen.length
  wbad : ∀ k, f.waits k = true → f.badSeen k = false
  bseen : ∀ k, f.badSeen k = true → k < sectors f.seen.length
  bsafe : ∀ k, f.badSafe k = true → k < sectors f.safe.length
  zseen : ∀ i, f.badSeen (i / 512) = true → f.seen.getD i 0 = 0
  zsafe : ∀ i, f.badSafe (i / 512) = true → f.safe.getD i 0 = 0
  byteSeen : ∀ x, x ∈ f.seen → 0 ≤ x ∧ x < 256
  byteSafe : ∀ x, x ∈ f.safe → 0 ≤ x ∧ x < 256
theorem sectors_lt {k n : Nat} : k < sectors n ↔ k * 512 < n := by unfold sectors; omega
theorem FOK.new : FOK FileS.new := by
  unfold FileS.new
  constructor <;> simp
theorem FOK.sync {f : FileS} (h : FOK f) : FOK f.sync := by
  unfold FileS.sync
  exact ⟨Nat.le_refl _, fun _ _ => rfl, fun _ _ => rfl, fun _ h => (by simp at h), fun _ h => (by simp at h), h.bseen, h.bseen, h.zseen, h.zseen, h.byteSeen, h.byteSeen⟩
theorem FOK.add {f : FileS} (h : FOK f) (data : List Int) (hd : ∀ x, x ∈ data → 0 ≤ x ∧ x < 256) : FOK (f.add data) := by
  unfold FileS.add
  split
  · exact h
  · rename_i hne
    have hpos : 0 < data.length := List.length_pos_iff.2 hne
    have hs := h.sub
    have key : ∀ k, (decide (f.seen.length / 512 ≤ k) && decide (k < sectors (f.seen.length + data.length))) = true ↔ f.seen.length / 512 ≤ k ∧ k < sectors (f.seen.length + data.length) := by simp
    constructor
    · show f.safe.length ≤ (f.seen ++ data).length; simp; omega
    · intro i hw
      show (f.seen ++ data)[i]? = f.safe[i]?
      simp only [Bool.or_eq_false_iff] at hw
      obtain ⟨hw1, hw2⟩ := hw
      have hw3 : ¬ (f.seen.length / 512 ≤ i / 512 ∧ i / 512 < sectors (f.seen.length + data.length)) := fun e => by rw [(key _).2 e] at hw2; cases hw2
      have := h.agree i hw1
      rcases Nat.lt_or_ge i f.seen.length with hi | hi
      · rw [List.getElem?_append_left hi, this]
      · have : (f.seen ++ data).length ≤ i := by simp only [List.length_append]; unfold sectors at hw3; omega
        rw [List.getElem?_eq_none this, List.getElem?_eq_none (by omega)]
    · intro k hw
      simp only [Bool.or_eq_false_iff] at hw
      show (f.badSeen k && !(decide (f.seen.length / 512 ≤ k) && decide (k < sectors (f.seen.length + data.length)))) = f.badSafe k
      rw [hw.2, ← h.agreeBad k hw.1]; simp
    · intro k hw
      show k < sectors (f.seen ++ data).length
      rw [List.length_append]
      simp only [Bool.or_eq_true] at hw
      rcases hw with hw | hw
      · have := h.wlt k hw; rw [sectors_lt] at this ⊢; omega
      · exact ((key k).1 hw).2
    · intro k hw
      show (f.badSeen k && !(decide (f.seen.length / 512 ≤ k) && decide (k < sectors (f.seen.length + data.length)))) = false
      simp only [Bool.or_eq_true] at hw
      rcases hw with hw | hw
      · rw [h.wbad k hw]; rfl
      · rw [hw]; simp
    · intro k hb
      show k < sectors (f.seen ++ data).length
      simp only [Bool.and_eq_true] at hb
      have := h.bseen k hb.1
      rw [List.length_append]
      rw [sectors_lt] at this ⊢; omega
    · exact h.bsafe
    · intro i hb
      show (f.seen ++ data).getD i 0 = 0
      simp only [Bool.and_eq_true, Bool.not_eq_true'] at hb
      have h1 := h.zseen i hb.1
      have hw3 : ¬ (f.seen.length / 512 ≤ i / 512 ∧ i / 512 < sectors (f.seen.length + data.length)) := fun e => by rw [(key _).2 e] at hb; cases hb.2
      rcases Nat.lt_or_ge i f.seen.length with hi | hi
      · rw [List.getD_eq_getElem?_getD, List.getElem?_append_left hi, ← List.getD_eq_getElem?_getD]; exact h1
      · rw [List.getD_eq_getElem?_getD, List.getElem?_eq_none]
        · rfl
        · simp only [List.length_append]; unfold sectors at hw3; omega
    · exact h.zsafe
    · intro x hx
      rcases List.mem_append.1 hx with hx | hx
      · exact h.byteSeen x hx
      · exact hd x hx
    · exact h.byteSafe
theorem FOK.trunc {f : FileS} (h : FOK f) (n : Int) (h0 : 0 ≤ n) (h5 : n % 512 = 0) (hn : n ≤ f.seen.length) : FOK (f.trunc n) := by
  obtain ⟨m, rfl⟩ := Int.eq_ofNat_of_zero_le h0
  have hs := h.sub
  have key : ∀ (b : Nat → Bool) k, cutBad b (m : Int) k = true ↔ b k = true ∧ k * 512 < m := by
    intro b k; unfold cutBad; rw [Bool.and_eq_true, decide_eq_true_eq]
    exact and_congr_right fun _ => ⟨fun h => by omega, fun h => by omega⟩
  have key2 : ∀ (b : Nat → Bool) k, cutBad b (m : Int) k = (b k && decide (k * 512 < m)) := by
    intro b k; rw [Bool.eq_iff_iff, key]; simp only [Bool.and_eq_true, decide_eq_true_eq]
  unfold FileS.trunc
  simp only [Int.toNat_natCast]
  constructor
  · show (f.safe.take m).length ≤ (f.seen.take m).length; simp; omega
  · intro i hw
    show (f.seen.take m)[i]? = (f.safe.take m)[i]?
    rcases Nat.lt_or_ge i m with hi | hi
    · rw [List.getElem?_take_of_lt hi, List.getElem?_take_of_lt hi]
      refine h.agree i ?_
      change cutBad f.waits (m : Int) (i / 512) = false at hw
      rw [key2] at hw
      have : decide (i / 512 * 512 < m) = true := by simp; omega
      rw [this, Bool.and_true] at hw
      exact hw
    · rw [List.getElem?_eq_none (by simp; omega), List.getElem?_eq_none (by simp; omega)]
  · intro k hw
    show cutBad f.badSeen (m : Int) k = cutBad f.badSafe (m : Int) k
    change cutBad f.waits (m : Int) k = false at hw
    rw [key2] at hw ⊢
    rw [key2]
    cases hd : decide (k * 512 < m) with
    | false => simp
    | true => rw [hd, Bool.and_true] at hw; rw [h.agreeBad k hw]
  · intro k hw
    have h1 := (key _ _).1 hw
    have h2 := h.wlt k h1.1
    show k < sectors (f.seen.take m).length
    rw [sectors_lt] at h2 ⊢; rw [List.length_take]; omega
  · intro k hw
    have h1 := (key _ _).1 hw
    show cutBad f.badSeen (m : Int) k = false
    rw [key2, h.wbad k h1.1]; rfl
  · intro k hb
    have h1 := (key _ _).1 hb
    show k < sectors (f.seen.take m).length
    rw [sectors_lt, List.length_take]; omega
  · intro k hb
    have h1 := (key _ _).1 hb
    have h2 := h.bsafe k h1.1
    show k < sectors (f.safe.take m).length
    rw [sectors_lt] at h2 ⊢; rw [List.length_take]; omega
  · intro i hb
    have h1 := (key _ _).1 hb
    have h2 := h.zseen i h1.1
    show (f.seen.take m).getD i 0 = 0
    rw [List.getD_eq_getElem?_getD] at h2 ⊢
    rw [List.getElem?_take]
    split
    · exact h2
    · rfl
  · intro i hb
    have h1 := (key _ _).1 hb
    have h2 := h.zsafe i h1.1
    show (f.safe.take m).getD i 0 = 0
    rw [List.getD_eq_getElem?_getD] at h2 ⊢
    rw [List.getElem?_take]
    split
    · exact h2
    · rfl
  · exact fun x hx => h.byteSeen x (List.mem_of_mem_take hx)
  · exact fun x hx => h.byteSafe x (List.mem_of_mem_take hx)
/-! ### Names -/
structure Ns (N : Nat) (l : List (Name × Nat)) : Prop where
  names : (l.map (·.1)).Nodup
  ids : (l.map (·.2)).Nodup
  lt : ∀ p, p ∈ l → p.2 < N
  good : ∀ p, p ∈ l → good p.1 = true
theorem Ns.nil (N : Nat) : Ns N [] := ⟨by simp, by simp, by simp, by simp⟩
theorem Ns.more {N M : Nat} {l : List (Name × Nat)} (h : Ns N l) (hM : N ≤ M) : Ns M l := ⟨h.names, h.ids, fun p hp => Nat.lt_of_lt_of_le (h.lt p hp) hM, h.good⟩
theorem Ns.erase {N : Nat} {l : List (Name × Nat)} (h : Ns N l) (n : Name) : Ns N (erase l n) := by
  unfold Dm.erase
  exact ⟨h.names.sublist (List.filter_sublist.map _), h.ids.sublist (List.filter_sublist.map _), fun p hp => h.lt p (List.mem_filter.1 hp).1, fun p hp => h.good p (List.mem_filter.1 hp).1⟩
theorem Ns.put {N : Nat} {l : List (Name × Nat)} (h : Ns N l) {n : Name} {i : Nat} (hg : Dm.good n = true) (hi : i < N) (hid : i ∉ (Dm.erase l n).map (·.2)) : Ns N (put l n i) := by
  have he := h.erase n
  unfold Dm.put
  refine ⟨?_, ?_, ?_, ?_⟩
  · rw [List.map_append, List.nodup_append]
    refine ⟨he.names, by simp, ?_⟩
    intro a ha b hb e
    simp only [List.map_cons, List.map_nil, List.mem_singleton] at hb
    obtain ⟨p, hp, rfl⟩ := List.mem_map.1 ha
    have := (List.mem_filter.1 hp).2
    rw [e, hb] at this
    simp at this
  · rw [List.map_append, List.nodup_append]
    refine ⟨he.ids, by simp, ?_⟩
    intro a ha b hb e
    simp only [List.map_cons, List.map_nil, List.mem_singleton] at hb
    exact hid (by rw [← hb, ← e]; exact ha)
  · intro p hp
    rcases List.mem_append.1 hp with hp | hp
    · exact he.lt p hp
    · obtain rfl := List.mem_singleton.1 hp; exact hi
  · intro p hp
    rcases List.mem_append.1 hp with hp | hp
    · exact he.good p hp
    · obtain rfl := List.mem_singleton.1 hp; exact hg
theorem find_iff {l : List (Name × Nat)} (hl : (l.map (·.1)).Nodup) (n : Name) (i : Nat) : find l n = some i ↔ (n, i) ∈ l := by
  induction l with
  | nil => simp [find]
  | cons p l ih =>
    simp only [List.map_cons, List.nodup_cons] at hl
    have ih := ih hl.2
    simp only [find, List.find?_cons] at ih ⊢
    by_cases h : p.1 = n
    · simp only [h, decide_true, Option.map_some, Option.some.injEq, List.mem_cons]
      constructor
      · rintro rfl; left; rw [← h]
      · rintro (h2 | h2)
        · rw [← h2]
        · exact absurd (List.mem_map_of_mem (f := (·.1)) h2) (by rw [h] at hl; exact hl.1)
    · simp only [h, decide_false, ih, List.mem_cons]
      constructor
      · exact .inr
      · rintro (h2 | h2)
        · exact absurd (by rw [← h2]) h
        · exact h2
/-- What holds of every disk. -/
structure Inv (D : Disk) : Prop where
  left : D.left D.changes.length = D.now
  each : ∀ k, k ≤ D.changes.length → Ns D.files.length (D.left k)
  del : ∀ c, c ∈ D.changes → ∀ n, c.del = some n → good n = true
  put : ∀ c, c ∈ D.changes → ∀ p, c.put = some p → p.2 < D.files.length
  files : ∀ f, f ∈ D.files → FOK f
theorem Inv.now {D : Disk} (h : Inv D) : Ns D.files.length D.now := by rw [← h.left]; exact h.each _ (Nat.le_refl _)
theorem Inv.sure {D : Disk} (h : Inv D) : Ns D.files.length D.sure := by
  have := h.each 0 (Nat.zero_le _)
  simpa [Disk.left] using this
theorem Inv.new : Inv Disk.new := by
  unfold Disk.new
  refine ⟨rfl, ?_, ?_, ?_, ?_⟩
  · intro k hk; simp [Disk.left]; exact Ns.nil _
  · intro c hc; simp at hc
  · intro c hc; simp at hc
  · intro c hc; simp at hc
theorem Inv.congr {D D' : Disk} (h : Inv D) (h1 : D'.files = D.files) (h2 : D'.now = D.now) (h3 : D'.sure = D.sure) (h4 : D'.changes = D.changes) : Inv D' := by
  have hl : ∀ k, D'.left k = D.left k := by intro k; unfold Disk.left; rw [h3, h4]
  exact ⟨by rw [hl, h4, h2]; exact h.left, fun k hk => by rw [hl, h1]; exact h.each k (by rw [← h4]; exact hk), fun c hc => h.del c (by rw [← h4]; exact hc), fun c hc p hp => by rw [h1]; exact h.put c (by rw [← h4]; exact hc) p hp, fun f hf => h.files f (by rw [← h1]; exact hf)⟩
theorem Inv.tick {D : Disk} (h : Inv D) : Inv D.tick := h.congr rfl rfl rfl rfl
theorem Inv.dark {D : Disk} (h : Inv D) : Inv D.dark := h.congr rfl rfl rfl rfl
/-- A change of names more. -/
theorem Inv.change {D D' : Disk} (h : Inv D) (c : Chg) {fs : List FileS} (h1 : D'.files = D.files ++ fs) (h2 : D'.now = apply D.now c) (h3 : D'.sure = D.sure) (h4 : D'.changes = D.changes ++ [c]) (hfs : ∀ f, f ∈ fs → FOK f)
    (hn : Ns D'.files.length D'.now) (hdel : ∀ n, c.del = some n → good n = true) (hput : ∀ p, c.put = some p → p.2 < D'.files.length) : Inv D' := by
  have hl : ∀ k, k ≤ D.changes.length → D'.left k = D.left k := by
    intro k hk; unfold Disk.left; rw [h3, h4, List.take_append_of_le_length hk]
  have hl2 : D'.left D'.changes.length = D'.now := by
    have : D'.left D'.changes.length = apply (D.left D.changes.length) c := by
      unfold Disk.left
      rw [h3, h4, List.take_of_length_le (Nat.le_refl _), List.take_of_length_le (Nat.le_refl _), List.foldl_append]
      rfl
    rw [this, h.left, h2]
  have hM : D.files.length ≤ D'.files.length := by rw [h1, List.length_append]; omega
  refine ⟨hl2, fun k hk => ?_, fun d hd => ?_, fun d hd p hp => ?_, fun f hf => ?_⟩
  · rcases Nat.lt_or_ge D.changes.length k with hkl | hkl
    · have : k = D'.changes.length := by rw [h4] at hk ⊢; simp at hk ⊢; omega
      rw [this, hl2]; exact hn
    · rw [hl k hkl]; exact (h.each k hkl).more hM
  · rw [h4] at hd
    rcases List.mem_append.1 hd with hd | hd
    · exact h.del d hd
    · obtain rfl := List.mem_singleton.1 hd; exact hdel
  · rw [h4] at hd
    rcases List.mem_append.1 hd with hd | hd
    · exact Nat.lt_of_lt_of_le (h.put d hd p hp) hM
    · obtain rfl := List.mem_singleton.1 hd; exact hput p hp
  · rw [h1] at hf
    rcases List.mem_append.1 hf with hf | hf
    · exact h.files f hf
    · exact hfs f hf
theorem Inv.create {D : Disk} (h : Inv D) {n : Name} (hg : good n = true) : Inv (Disk.doCreate n D) := by
  have hN : (Disk.doCreate n D).files.length = D.files.length + 1 := by simp [Disk.doCreate]
  refine h.change ⟨none, some (n, D.files.length)⟩ (fs := [FileS.new]) rfl rfl rfl rfl (fun f hf => by obtain rfl := List.mem_singleton.1 hf; exact FOK.new) ?_ (fun n hn => by cases hn) (fun p hp => by cases hp; omega)
  rw [hN]
  refine (h.now.more (Nat.le_succ _)).put hg (by omega) (fun hm => ?_)
  obtain ⟨p, hp, he⟩ := List.mem_map.1 hm
  have := (h.now.erase n).lt p hp
  omega
theorem Inv.remove {D : Disk} (h : Inv D) {n : Name} (hg : good n = true) : Inv (Disk.doRemove n D) :=
  h.change ⟨some n, none⟩ (fs := []) (by simp [Disk.doRemove]) rfl rfl rfl (fun f hf => by cases hf) (h.now.erase n) (fun m hm => by cases hm; exact hg) (fun p hp => by cases hp)
theorem Inv.rename {D : Disk} (h : Inv D) {a b : Name} (hb : good b = true) : Inv (Disk.doRename a b D) := by
  unfold Disk.doRename
  split
  · exact h
  · rename_i hab
    split
    · rename_i i hi
      have hm := (find_iff h.now.names a i).1 hi
      have hga := h.now.good _ hm
      have hil := h.now.lt _ hm
      refine h.change ⟨some a, some (b, i)⟩ (fs := []) (by simp) rfl rfl rfl (fun f hf => by cases hf) ?_ (fun m hm => by cases hm; exact hga) (fun p hp => by cases hp; exact hil)
      refine (h.now.erase a).put hb hil (fun hmem => ?_)
      obtain ⟨p, hp, he⟩ := List.mem_map.1 hmem
      have hp1 := List.mem_filter.1 hp
      have hp2 := List.mem_filter.1 hp1.1
      have : p = (a, i) := by
        have hinj : ∀ (l : List (Name × Nat)), (l.map (·.2)).Nodup → ∀ p q, p ∈ l → q ∈ l → p.2 = q.2 → p = q := by
          intro l
          induction l with
          | nil => intro _ p q hp; cases hp
          | cons r l ih =>
            intro hnd p q hp hq e
            simp only [List.map_cons, List.nodup_cons] at hnd
            rcases List.mem_cons.1 hp with h1 | h1 <;> rcases List.mem_cons.1 hq with h2 | h2
            · rw [h1, h2]
            · exact absurd (List.mem_map_of_mem (f := (·.2)) h2) (by rw [← e, h1]; exact hnd.1)
            · exact absurd (List.mem_map_of_mem (f := (·.2)) h1) (by rw [e, h2]; exact hnd.1)
            · exact ih hnd.2 p q h1 h2 e
        exact hinj _ h.now.ids p (a, i) hp2.1 hm he
      rw [this] at hp2
      simp at hp2
    · exact h
theorem Inv.syncNames {D : Disk} (h : Inv D) : Inv D.doSyncNames := by
  unfold Disk.doSyncNames
  have hl : ∀ k, Disk.left { D with sure := D.left D.changes.length, changes := [] } k = D.now := by
    intro k; unfold Disk.left; simp only [List.take_nil, List.foldl_nil]; exact h.left
  refine ⟨hl _, fun k hk => ?_, fun c hc => (by cases hc), fun c hc => (by cases hc), h.files⟩
  rw [hl]; exact h.now
theorem Inv.onFile {D : Disk} (h : Inv D) {n : Name} {g : FileS → FileS} (hg : ∀ i f, find D.now n = some i → D.files[i]? = some f → FOK f → FOK (g f)) : Inv (Disk.onFile n g D) := by
  unfold Disk.onFile
  split
  · rename_i i hi
    unfold Disk.modify
    have hl : ∀ k, Disk.left { D with files := D.files.modify i g } k = D.left k := fun _ => rfl
    have hlen : (D.files.modify i g).length = D.files.length := by simp
    refine ⟨h.left, fun k hk => ?_, h.del, fun c hc p hp => ?_, fun f hf => ?_⟩
    · rw [hl]; show Ns (D.files.modify i g).length _; rw [hlen]; exact h.each k hk
    · show p.2 < (D.files.modify i g).length; rw [hlen]; exact h.put c hc p hp
    · obtain ⟨j, hj, rfl⟩ := List.getElem_of_mem hf
      have hj' : j < D.files.length := by rw [← hlen]; exact hj
      have e : (D.files.modify i g)[j] = if i = j then g D.files[j] else D.files[j] := List.getElem_modify ..
      show FOK (D.files.modify i g)[j]
      rw [e]
      split
      · rename_i he
        subst he
        exact hg i _ hi (List.getElem?_eq_getElem hj') (h.files _ (List.getElem_mem _))
      · exact h.files _ (List.getElem_mem _)
  · exact h
/-- Whatever befalls an operation. -/
theorem Inv.run {D : Disk} (h : Inv D) {ref : Err} {act : Disk → Disk} {wt : Bool} {part : Option (Int → Disk → Disk)} (ha : ref = 0 → ∀ D1, D1 = D.tick ∨ D1 = D.tick.dark → Inv (act D1)) (hp : ref = 0 → ∀ p n, part = some p → Inv (p n D.tick)) : Inv (D.run ref act wt part).2 := by
  unfold Disk.run
  split
  · exact h
  · split
    · show Inv (if ref = 0 ∧ wt = true then act D.tick.dark else D.tick.dark)
      split
      · rename_i hr; exact ha hr.1 _ (.inr rfl)
      · exact h.tick.dark
    · rename_i n _
      show Inv (failTo ref n part D.tick)
      unfold failTo
      split
      · split
        · rename_i p hr; exact hp hr p n rfl
        · exact h.tick
      · exact h.tick
    · split
      · rename_i hr; exact ha hr _ (.inl rfl)
      · exact h.tick
theorem gone_ok {D : Disk} {n : Name} (h : D.gone n = 0) : ∃ i, find D.now n = some i := by
  unfold Disk.gone at h
  split at h
  · rename_i hs; exact Option.isSome_iff_exists.1 hs
  · cases h
theorem Inv.tickDark {D D1 : Disk} (h : Inv D) (hD : D1 = D.tick ∨ D1 = D.tick.dark) : Inv D1 ∧ D1.now = D.now ∧ D1.files = D.files := by
  rcases hD with rfl | rfl
  · exact ⟨h.tick, rfl, rfl⟩
  · exact ⟨h.tick.dark, rfl, rfl⟩
theorem Inv.opCreate {D : Disk} (h : Inv D) (n : Name) : Inv (D.create n).2 := by
  refine h.run (fun hr D1 hD => ?_) (fun _ p n hp => by cases hp)
  refine (h.tickDark hD).1.create ?_
  unfold Disk.refuseCreate at hr
  cases hg : good n with
  | true => rfl
  | false => rw [if_pos hg] at hr; cases hr
theorem Inv.opAppend {D : Disk} (h : Inv D) (n : Name) (data : List Int) (hd : ∀ x, x ∈ data → 0 ≤ x ∧ x < 256) : Inv (D.append n data).2 := by
  refine h.run (fun hr D1 hD => (h.tickDark hD).1.onFile fun i f _ _ hf => hf.add data hd) (fun hr p m hp => ?_)
  cases hp
  exact h.tick.onFile fun i f _ _ hf => hf.add _ fun x hx => hd x (List.mem_of_mem_take hx)
theorem Inv.opSync {D : Disk} (h : Inv D) (n : Name) : Inv (D.sync n).2 :=
  h.run (fun hr D1 hD => (h.tickDark hD).1.onFile fun i f _ _ hf => hf.sync) (fun _ p n hp => by cases hp)
theorem Inv.opTruncate {D : Disk} (h : Inv D) (n : Name) (k : Int) : Inv (D.truncate n k).2 := by
  refine h.run (fun hr D1 hD => (h.tickDark hD).1.onFile fun i f hi hf hok => ?_) (fun _ p n hp => by cases hp)
  obtain ⟨_, h2, h3⟩ := h.tickDark hD
  unfold Disk.refuseTrunc at hr
  split at hr
  · rename_i hne; exact absurd hr hne
  · split at hr
    · cases hr
    · rename_i hc
      simp only [not_or, Int.not_lt] at hc
      rw [h2] at hi
      rw [h3] at hf
      have hs : D.seenLen n = f.seen.length := by unfold Disk.seenLen; rw [hi]; simp [hf]
      have h0 := hc.1
      have h1 := hc.2.1
      have h4 := hc.2.2
      exact hok.trunc k h0 (by omega) (by omega)
theorem Inv.opRename {D : Disk} (h : Inv D) (a b : Name) : Inv (D.rename a b).2 := by
  refine h.run (fun hr D1 hD => ?_) (fun _ p n hp => by cases hp)
  refine (h.tickDark hD).1.rename ?_
  unfold Disk.refuseRename at hr
  cases hg : good b with
  | true => rfl
  | false => rw [if_pos hg] at hr; cases hr
theorem Inv.opRemove {D : Disk} (h : Inv D) (n : Name) : Inv (D.remove n).2 := by
  refine h.run (fun hr D1 hD => ?_) (fun _ p n hp => by cases hp)
  obtain ⟨h1, h2, h3⟩ := h.tickDark hD
  obtain ⟨i, hi⟩ := gone_ok hr
  exact h1.remove (h.now.good _ ((find_iff h.now.names n i).1 hi))
theorem Inv.opSyncNames {D : Disk} (h : Inv D) : Inv D.syncNames.2 :=
  h.run (fun hr D1 hD => (h.tickDark hD).1.syncNames) (fun _ p n hp => by cases hp)
theorem Inv.arm {D : Disk} (h : Inv D) (fails : List (Int × Int)) (cut : Int) : Inv (D.arm fails cut) := by
  unfold Disk.arm
  split
  · exact h
  · exact h.congr rfl rfl rfl rfl
end Go.Proofs.YtglhedahannjiaaGreatDoor.Dm

/- The pure disk: what a loss of power leaves is an image; an image that is loaded lies as it is. -/
namespace Go.Proofs.YtglhedahannjiaaGreatDoor.Dm
set_option linter.unusedVariables false
theorem nameLe_trans (a b c : Name) (h : nameLe a b = true) (k : nameLe b c = true) : nameLe a c = true := by
  unfold nameLe at *; simp only [decide_eq_true_eq] at *; exact List.le_trans h k
theorem nameLe_total (a b : Name) : (nameLe a b || nameLe b a) = true := by
  unfold nameLe
  rcases List.le_total a.data.toList b.data.toList with h | h <;> simp [h]
theorem name_ext {a b : Name} (h : a.data.toList = b.data.toList) : a = b := ByteArray.ext (Array.toList_inj.1 h)
theorem nameLe_antisymm {a b : Name} (h : nameLe a b = true) (k : nameLe b a = true) : a = b := by
  unfold nameLe at *; simp only [decide_eq_true_eq] at *; exact name_ext (List.le_antisymm h k)
theorem nameLt_of {a b : Name} (h : nameLe a b = true) (hne : a ≠ b) : nameLt a b := by
  unfold nameLt
  rcases Decidable.em (b.data.toList ≤ a.data.toList) with h2 | h2
  · exact absurd (nameLe_antisymm h (by unfold nameLe; simpa using h2)) hne
  · exact List.not_le.mp h2
theorem nameLt_ne {a b : Name} (h : nameLt a b) : a ≠ b := by rintro rfl; exact List.lt_irrefl _ h
theorem inOrder_perm (l : List (Name × Nat)) : (inOrder l).Perm l := List.mergeSort_perm l _
theorem inOrder_sorted (l : List (Name × Nat)) : (inOrder l).Pairwise fun a b => nameLe a.1 b.1 = true :=
  List.pairwise_mergeSort (le := fun a b => nameLe a.1 b.1) (fun a b c => nameLe_trans a.1 b.1 c.1) (fun a b => nameLe_total a.1 b.1) l
theorem inOrder_names {l : List (Name × Nat)} (h : (l.map (·.1)).Nodup) : ((inOrder l).map (·.1)).Pairwise nameLt := by
  have hn : ((inOrder l).map (·.1)).Nodup := ((inOrder_perm l).map (·.1)).nodup_iff.2 h
  have h1 : ((inOrder l).map (·.1)).Pairwise fun a b => nameLe a b = true := List.pairwise_map.2 (inOrder_sorted l)
  exact (h1.and hn).imp fun h => nameLt_of h.1 h.2
/-- Whatever order a map tells its names in. -/
theorem inOrder_eq {l l' : List (Name × Nat)} (hp : l'.Perm l) (h : (l.map (·.1)).Nodup) : inOrder l' = inOrder l := by
  have hk : ∀ p q : Name × Nat, p ∈ inOrder l' → q ∈ inOrder l → nameLe p.1 q.1 = true → nameLe q.1 p.1 = true → p = q := by
    intro p q hp1 hq1 h1 h2
    have e := nameLe_antisymm h1 h2
    have m1 : p ∈ l := (hp.mem_iff).1 ((inOrder_perm l').mem_iff.1 hp1)
    have m2 : q ∈ l := (inOrder_perm l).mem_iff.1 hq1
    have f1 := (find_iff h p.1 p.2).2 m1
    have f2 := (find_iff h q.1 q.2).2 m2
    rw [e, f2] at f1
    exact Prod.ext e (Option.some.inj f1).symm
  exact List.Perm.eq_of_pairwise (le := fun a b : Name × Nat => nameLe a.1 b.1 = true) hk (inOrder_sorted l') (inOrder_sorted l) (((inOrder_perm l').trans hp).trans (inOrder_perm l).symm)
theorem byBirth_perm (l : List (Name × Nat)) : (byBirth l).Perm l := List.mergeSort_perm l _
theorem numbers_pairwise (b : Nat → Bool) (m : Nat) : (numbers b m).Pairwise (· < ·) := by
  unfold numbers
  rw [List.pairwise_map]
  exact (List.pairwise_lt_range.filter _).imp fun h => by omega
theorem numbers_mem {b : Nat → Bool} {m : Nat} {k : Int} : k ∈ numbers b m ↔ 0 ≤ k ∧ k < m ∧ b k.toNat = true := by
  unfold numbers
  simp only [List.mem_map, List.mem_filter, List.mem_range]
  constructor
  · rintro ⟨j, ⟨h1, h2⟩, rfl⟩; exact ⟨by omega, by omega, by simpa using h2⟩
  · rintro ⟨h1, h2, h3⟩; exact ⟨k.toNat, ⟨by omega, h3⟩, by omega⟩
/-- The fates of the files, told apart. -/
theorem sidesBy_of {D : Disk} {fs : List Int} : ∀ (l : List (Name × Nat)) (c : Nat), (l.map (·.1)).Nodup → ∀ p, p ∈ l →
    ∃ c', c ≤ c' ∧ c' + (waitList (D.file p.2)).length ≤ c + (l.map fun q => (waitList (D.file q.2)).length).sum ∧ sideOf (sidesBy D fs l c) p.1 = (D.file p.2).fated (fatesFrom fs c' (waitList (D.file p.2)).length)
  | [], c, _, p, hp => by cases hp
  | q :: l, c, hn, p, hp => by
    simp only [List.map_cons, List.nodup_cons] at hn
    simp only [List.map_cons, List.sum_cons]
    rcases List.mem_cons.1 hp with h1 | h1
    · subst h1
      exact ⟨c, Nat.le_refl _, by omega, by simp [sidesBy, sideOf]⟩
    · have hne : q.1 ≠ p.1 := fun e => hn.1 (by rw [e]; exact List.mem_map_of_mem h1)
      obtain ⟨c', h2, h3, h4⟩ := sidesBy_of (D := D) (fs := fs) l (c + (waitList (D.file q.2)).length) hn.2 p h1
      refine ⟨c', by omega, by omega, ?_⟩
      rw [← h4]
      simp [sidesBy, sideOf, hne]
open Classical in
/-- What a loss of power leaves, file by file. -/
theorem crash_eq {D : Disk} (h : Inv D) (fs : List Int) (k : Int) : ∃ at_ : Name × Nat → Nat, (∀ p, p ∈ D.left k.toNat → at_ p + (waitList (D.file p.2)).length ≤ ((byBirth (D.left k.toNat)).map fun p => (waitList (D.file p.2)).length).sum) ∧
    D.crash fs k = (inOrder (D.left k.toNat)).map fun p => plain p.1 ((D.file p.2).fated (fatesFrom fs (at_ p) (waitList (D.file p.2)).length)) := by
  have hns : ((D.left k.toNat).map (·.1)).Nodup := by
    rcases Nat.lt_or_ge D.changes.length k.toNat with hk | hk
    · have : D.left k.toNat = D.left D.changes.length := by unfold Disk.left; rw [List.take_of_length_le (by omega), List.take_of_length_le (Nat.le_refl _)]
      rw [this]; exact (h.each _ (Nat.le_refl _)).names
    · exact (h.each _ hk).names
  have hnb : ((byBirth (D.left k.toNat)).map (·.1)).Nodup := ((byBirth_perm _).map (·.1)).nodup_iff.2 hns
  have key : ∀ p, p ∈ D.left k.toNat → ∃ c', c' + (waitList (D.file p.2)).length ≤ ((byBirth (D.left k.toNat)).map fun p => (waitList (D.file p.2)).length).sum ∧ sideOf (sidesBy D fs (byBirth (D.left k.toNat)) 0) p.1 = (D.file p.2).fated (fatesFrom fs c' (waitList (D.file p.2)).length) := by
    intro p hp
    obtain ⟨c', _, h2, h3⟩ := sidesBy_of (D := D) (fs := fs) (byBirth (D.left k.toNat)) 0 hnb p ((byBirth_perm _).mem_iff.2 hp)
    exact ⟨c', by omega, h3⟩
  refine ⟨fun p => if hp : p ∈ D.left k.toNat then (key p hp).choose else 0, fun p hp => ?_, ?_⟩
  · simp only [hp, dif_pos]; exact (key p hp).choose_spec.1
  · unfold Disk.crash
    refine List.map_congr_left fun p hp => ?_
    have hp' : p ∈ D.left k.toNat := (inOrder_perm _).mem_iff.1 hp
    have e := (key p hp').choose_spec.2
    simp only [hp', dif_pos]
    exact congrArg (plain p.1) e
theorem Inv.leftNs {D : Disk} (h : Inv D) (k : Nat) : Ns D.files.length (D.left k) := by
  rcases Nat.lt_or_ge D.changes.length k with hk | hk
  · have : D.left k = D.left D.changes.length := by unfold Disk.left; rw [List.take_of_length_le (by omega), List.take_of_length_le (Nat.le_refl _)]
    rw [this]; exact h.each _ (Nat.le_refl _)
  · exact h.each _ hk
theorem Inv.fileOk {D : Disk} (h : Inv D) (i : Nat) : FOK (D.file i) := by
  unfold Disk.file
  cases hf : D.files[i]? with
  | none => exact FOK.new
  | some f => exact h.files f (List.mem_of_getElem? hf)
theorem fateOf_zip_zero {ks : List Nat} {fs : List Int} (h : ∀ x, x ∈ fs → x = 0) (j : Nat) : fateOf (ks.zip fs) j = 0 := by
  have : ∀ l : List (Nat × Int), (∀ p, p ∈ l → p.2 = 0) → fateOf l j = 0 := by
    intro l
    induction l with
    | nil => intro _; rfl
    | cons p l ih =>
      intro hl
      unfold fateOf
      split
      · exact hl p List.mem_cons_self
      · exact ih fun q hq => hl q (List.mem_cons_of_mem _ hq)
  exact this _ fun p hp => h _ (List.of_mem_zip (a := p.1) (b := p.2) hp).2
theorem longTo_zip_zero {n : Nat} {ks : List Nat} {fs : List Int} (h : ∀ x, x ∈ fs → x = 0) (L : Nat) : longTo n (ks.zip fs) L = L := by
  have : ∀ (l : List (Nat × Int)) (L : Nat), (∀ p, p ∈ l → p.2 = 0) → longTo n l L = L := by
    intro l
    induction l with
    | nil => intro L _; rfl
    | cons p l ih =>
      intro L hl
      unfold longTo
      rw [if_pos (hl p List.mem_cons_self)]
      exact ih L fun q hq => hl q (List.mem_cons_of_mem _ hq)
  exact this _ _ fun p hp => h _ (List.of_mem_zip (a := p.1) (b := p.2) hp).2
theorem range_self (l : List Int) : (List.range l.length).map (fun i => l.getD i 0) = l :=
  (eq_range rfl fun i hi => by rw [List.getD_eq_getElem?_getD, List.getElem?_eq_getElem hi]; rfl).symm
/-- All lost. -/
theorem fated_lost (f : FileS) (hs : f.safe.length ≤ f.seen.length) {fates : List Int} (h : ∀ x, x ∈ fates → x = 0) : f.fated fates = ⟨f.safe, f.badSafe⟩ := by
  obtain ⟨h1, h2⟩ := fated_eq f hs fates
  rw [longTo_zip_zero h] at h1
  have h3 : (f.fated fates).data = f.safe := by
    rw [h1]
    have : byteOf f.seen f.safe (fateOf ((waitList f).zip fates)) = fun i => f.safe.getD i 0 := by
      funext i; unfold byteOf; rw [if_pos (fateOf_zip_zero h _)]
    rw [this]; exact range_self _
  have h4 : (f.fated fates).bad = f.badSafe := by
    funext j; rw [h2 j, if_neg (by simp [fateOf_zip_zero h j])]
  cases hx : f.fated fates
  rw [hx] at h3 h4
  simp only at h3 h4
  rw [h3, h4]
/-- What fates leave is fit for an image. -/
structure SOK (s : Side) : Prop where
  bad : ∀ k, s.bad k = true → k < sectors s.data.length
  zero : ∀ i, s.bad (i / 512) = true → s.data.getD i 0 = 0
  bytes : ∀ x, x ∈ s.data → 0 ≤ x ∧ x < 256
theorem getD_bytes {l : List Int} (h : ∀ x, x ∈ l → 0 ≤ x ∧ x < 256) (i : Nat) : 0 ≤ l.getD i 0 ∧ l.getD i 0 < 256 := by
  rw [List.getD_eq_getElem?_getD]
  cases hc : l[i]? with
  | none => simp
  | some x => exact h x (List.mem_of_getElem? hc)
theorem fateOf_mem : ∀ (l : List (Nat × Int)) (j : Nat), fateOf l j ≠ 0 → (j, fateOf l j) ∈ l
  | [], j, h => absurd rfl h
  | p :: l, j, h => by
    unfold fateOf at h ⊢
    by_cases e : p.1 = j
    · rw [if_pos e] at h ⊢; rw [← e]; exact List.mem_cons_self
    · rw [if_neg e] at h ⊢; exact List.mem_cons_of_mem _ (fateOf_mem l j h)
theorem fated_ok {f : FileS} (h : FOK f) (fates : List Int) : SOK (f.fated fates) ∧ (f.fated fates).data.length ≤ f.seen.length := by
  obtain ⟨a1, a2⟩ := fated_eq f h.sub fates
  generalize hW : (waitList f).zip fates = W at *
  have hL := longTo_max (n := f.seen.length) W f.safe.length h.sub
  have hL2 := longTo_le f.seen.length W f.safe.length
  have hlen : (f.fated fates).data.length = longTo f.seen.length W f.safe.length := by rw [a1]; simp
  refine ⟨⟨fun k hk => ?_, fun i hi => ?_, fun x hx => ?_⟩, by omega⟩
  · rw [hlen, sectors_lt]
    rw [a2 k] at hk
    split at hk
    · rename_i h0
      have hm := fateOf_mem W k h0
      have h1 := longTo_mem (n := f.seen.length) W f.safe.length _ hm h0
      have h2 : k < sectors f.seen.length := by
        rw [← hW] at hm
        exact (waitList_mem.1 (zip_mem hm)).1
      rw [sectors_lt] at h2
      simp only at h1
      omega
    · have := h.bsafe k hk; rw [sectors_lt] at this; omega
  · rw [a1, List.getD_eq_getElem?_getD, List.getElem?_map]
    rcases Nat.lt_or_ge i (longTo f.seen.length W f.safe.length) with hlt | hge
    · rw [List.getElem?_range hlt]
      show byteOf f.seen f.safe (fateOf W) i = 0
      rw [a2] at hi
      unfold byteOf
      by_cases h0 : fateOf W (i / 512) = 0
      · rw [if_pos h0]
        rw [if_neg (by simpa using h0)] at hi
        exact h.zsafe i hi
      · rw [if_neg h0]
        rw [if_pos h0] at hi
        rw [if_neg (by simpa using hi)]
    · rw [List.getElem?_eq_none (by simpa using hge)]; rfl
  · rw [a1] at hx
    obtain ⟨i, _, rfl⟩ := List.mem_map.1 hx
    unfold byteOf
    split
    · exact getD_bytes h.byteSafe i
    · split
      · exact getD_bytes h.byteSeen i
      · omega
theorem seen_ok {f : FileS} (h : FOK f) : SOK ⟨f.seen, f.badSeen⟩ := ⟨h.bseen, h.zseen, h.byteSeen⟩
/-- An image as a disk answers one. -/
structure Img (l : List Plain) : Prop where
  good : Good l
  zero : ∀ p, p ∈ l → ∀ i : Nat, ((i / 512 : Nat) : Int) ∈ p.bad → p.data.getD i 0 = 0
  bytes : ∀ p, p ∈ l → ∀ x, x ∈ p.data → 0 ≤ x ∧ x < 256
theorem img_of {ns : List (Name × Nat)} {N : Nat} (h : Ns N ns) {g : Name × Nat → Side} (hg : ∀ p, p ∈ ns → SOK (g p)) : Img ((inOrder ns).map fun p => plain p.1 (g p)) := by
  have hm : ∀ q, q ∈ (inOrder ns).map (fun p => plain p.1 (g p)) → ∃ p, p ∈ ns ∧ q = plain p.1 (g p) := by
    intro q hq
    obtain ⟨p, hp, rfl⟩ := List.mem_map.1 hq
    exact ⟨p, (inOrder_perm _).mem_iff.1 hp, rfl⟩
  refine ⟨⟨fun q hq => ?_, ?_, fun q hq => ?_⟩, fun q hq i hi => ?_, fun q hq => ?_⟩
  · obtain ⟨p, hp, rfl⟩ := hm q hq; exact h.good p hp
  · rw [List.map_map]; exact inOrder_names h.names
  · obtain ⟨p, hp, rfl⟩ := hm q hq
    refine ⟨numbers_pairwise _ _, fun k hk => ?_⟩
    obtain ⟨h1, h2, _⟩ := numbers_mem.1 hk
    exact ⟨h1, h2⟩
  · obtain ⟨p, hp, rfl⟩ := hm q hq
    obtain ⟨_, _, h3⟩ := numbers_mem.1 hi
    exact (hg p hp).zero i (by rw [Int.toNat_natCast] at h3; exact h3)
  · obtain ⟨p, hp, rfl⟩ := hm q hq; exact (hg p hp).bytes
theorem crash_img {D : Disk} (h : Inv D) (fs : List Int) (k : Int) : Img (D.crash fs k) := by
  obtain ⟨c, _, e⟩ := crash_eq h fs k
  rw [e]
  exact img_of (h.leftNs _) fun p _ => (fated_ok (h.fileOk _) _).1
theorem seen_img {D : Disk} (h : Inv D) : Img D.seenImg := by
  unfold Disk.seenImg
  split
  · exact ⟨⟨by simp, by simp, by simp⟩, by simp, by simp⟩
  · exact img_of h.now fun p _ => seen_ok (h.fileOk _)
end Go.Proofs.YtglhedahannjiaaGreatDoor.Dm

/- The pure disk: what an image loads to. -/
namespace Go.Proofs.YtglhedahannjiaaGreatDoor.Dm
set_option linter.unusedVariables false
theorem clearAt_len (k : Nat) (d : List Int) : (clearAt k d).length = d.length := by
  unfold clearAt; simp only [List.length_append, List.length_take, List.length_replicate, List.length_drop]; omega
theorem clearAt_get (k : Nat) (d : List Int) (i : Nat) (hi : i < d.length) : (clearAt k d)[i]? = if i / 512 = k then some 0 else d[i]? := by
  unfold clearAt
  generalize hm : min ((k + 1) * 512) d.length = m
  by_cases h1 : i < k * 512
  · rw [List.append_assoc, List.getElem?_append_left (by simp; omega), List.getElem?_take_of_lt h1, if_neg (by omega)]
  · by_cases h2 : i < m
    · rw [List.getElem?_append_left (by simp; omega), List.getElem?_append_right (by simp; omega), List.getElem?_replicate, if_pos (by simp; omega), if_pos (by omega)]
    · rw [List.getElem?_append_right (by simp; omega), List.getElem?_drop, if_neg (by omega)]
      congr 1
      simp; omega
theorem clearAt_getD (k : Nat) (d : List Int) (i : Nat) : (clearAt k d).getD i 0 = if i / 512 = k then 0 else d.getD i 0 := by
  rcases Nat.lt_or_ge i d.length with hi | hi
  · rw [List.getD_eq_getElem?_getD, clearAt_get k d i hi]
    split
    · rfl
    · rw [List.getD_eq_getElem?_getD]
  · rw [List.getD_eq_getElem?_getD, List.getElem?_eq_none (by rw [clearAt_len]; exact hi), List.getD_eq_getElem?_getD, List.getElem?_eq_none hi]
    simp
theorem clearBad_len : ∀ (bad d : List Int), (clearBad bad d).length = d.length
  | [], d => rfl
  | k :: l, d => by unfold clearBad; rw [clearBad_len l, clearAt_len]
theorem clearBad_getD : ∀ (bad d : List Int) (i : Nat), (clearBad bad d).getD i 0 = if ∃ k, k ∈ bad ∧ k.toNat = i / 512 then 0 else d.getD i 0
  | [], d, i => by simp [clearBad]
  | k :: l, d, i => by
    unfold clearBad
    rw [clearBad_getD l, clearAt_getD]
    by_cases h1 : ∃ k, k ∈ l ∧ k.toNat = i / 512
    · rw [if_pos h1, if_pos]
      obtain ⟨k', h, e⟩ := h1
      exact ⟨k', List.mem_cons_of_mem _ h, e⟩
    · rw [if_neg h1]
      by_cases h2 : i / 512 = k.toNat
      · rw [if_pos h2, if_pos ⟨k, List.mem_cons_self, h2.symm⟩]
      · rw [if_neg h2, if_neg]
        rintro ⟨k', h, e⟩
        rcases List.mem_cons.1 h with rfl | h
        · exact h2 e.symm
        · exact h1 ⟨k', h, e⟩
theorem clearBad_snoc : ∀ (bad : List Int) (k : Int) (d : List Int), clearBad (bad ++ [k]) d = clearAt k.toNat (clearBad bad d)
  | [], _, _ => rfl
  | j :: l, k, d => by simp only [List.cons_append, clearBad]; exact clearBad_snoc l k _
theorem mem_clearAt {k : Nat} {d : List Int} {x : Int} (h : x ∈ clearAt k d) : x = 0 ∨ x ∈ d := by
  unfold clearAt at h
  rcases List.mem_append.1 h with h | h
  · rcases List.mem_append.1 h with h | h
    · exact .inr (List.mem_of_mem_take h)
    · exact .inl (List.eq_of_mem_replicate h)
  · exact .inr (List.mem_of_mem_drop h)
theorem mem_clearBad : ∀ {bad d : List Int} {x : Int}, x ∈ clearBad bad d → x = 0 ∨ x ∈ d
  | [], d, x, h => .inr h
  | k :: l, d, x, h => by
    unfold clearBad at h
    rcases mem_clearBad h with h | h
    · exact .inl h
    · exact mem_clearAt h
theorem FOK.load {p : Plain} (hb : badOk p) (hd : ∀ x, x ∈ p.data → 0 ≤ x ∧ x < 256) : FOK (loadFile p) := by
  have h1 : ∀ k : Nat, decide ((k : Int) ∈ p.bad) = true → k < sectors (clearBad p.bad p.data).length := by
    intro k hk
    have := (hb.2 _ (of_decide_eq_true hk)).2
    rw [clearBad_len]; omega
  have h2 : ∀ i : Nat, decide (((i / 512 : Nat) : Int) ∈ p.bad) = true → (clearBad p.bad p.data).getD i 0 = 0 := by
    intro i hi
    rw [clearBad_getD, if_pos ⟨_, of_decide_eq_true hi, by omega⟩]
  have h3 : ∀ x, x ∈ clearBad p.bad p.data → 0 ≤ x ∧ x < 256 := by
    intro x hx
    rcases mem_clearBad hx with rfl | h
    · omega
    · exact hd x h
  exact { sub := Nat.le_refl _, agree := fun _ _ => rfl, agreeBad := fun _ _ => rfl, wlt := fun k h => by simp [loadFile] at h, wbad := fun k h => by simp [loadFile] at h,
          bseen := h1, bsafe := h1, zseen := h2, zsafe := h2, byteSeen := h3, byteSafe := h3 }
theorem named_names : ∀ (l : List Plain) (i : Nat), (named l i).map (·.1) = l.map (·.name)
  | [], _ => rfl
  | p :: l, i => by simp [named, named_names l]
theorem named_ids : ∀ (l : List Plain) (i : Nat), (named l i).map (·.2) = (List.range' i l.length)
  | [], _ => rfl
  | p :: l, i => by simp [named, named_ids l, List.range'_succ]
theorem named_snoc : ∀ (l : List Plain) (p : Plain) (i : Nat), named (l ++ [p]) i = named l i ++ [(p.name, i + l.length)]
  | [], p, i => by simp [named]
  | q :: l, p, i => by
    simp only [List.cons_append, named, named_snoc l p (i + 1), List.length_cons]
    rw [Nat.add_right_comm, Nat.add_assoc i]
theorem names_nodup {l : List Plain} (h : (l.map (·.name)).Pairwise nameLt) : (l.map (·.name)).Nodup := h.imp fun h => nameLt_ne h
theorem Ns.load {l : List Plain} (h : Good l) : Ns l.length (named l 0) := by
  refine ⟨by rw [named_names]; exact names_nodup h.order, by rw [named_ids]; exact List.nodup_range', fun p hp => ?_, fun p hp => ?_⟩
  · have := List.mem_map_of_mem (f := (·.2)) hp
    rw [named_ids, List.mem_range'_1] at this
    omega
  · have := List.mem_map_of_mem (f := (·.1)) hp
    rw [named_names] at this
    obtain ⟨q, hq, e⟩ := List.mem_map.1 this
    rw [← e]; exact h.names q hq
theorem Inv.load {l : List Plain} (h : Good l) (hd : ∀ p, p ∈ l → ∀ x, x ∈ p.data → 0 ≤ x ∧ x < 256) : Inv (Disk.load l) := by
  refine ⟨rfl, fun k hk => ?_, fun c hc => by simp [Disk.load, Disk.new] at hc, fun c hc => by simp [Disk.load, Disk.new] at hc, fun f hf => ?_⟩
  · have e : (Disk.load l).left k = named l 0 := by simp [Disk.left, Disk.load, Disk.new]
    have e2 : (Disk.load l).files.length = l.length := by simp [Disk.load]
    rw [e, e2]; exact Ns.load h
  · obtain ⟨p, hp, rfl⟩ := List.mem_map.1 hf
    exact FOK.load (h.bads p hp) (hd p hp)
end Go.Proofs.YtglhedahannjiaaGreatDoor.Dm

/- The pure disk: loading an image, file by file. -/
namespace Go.Proofs.YtglhedahannjiaaGreatDoor.Dm
set_option linter.unusedVariables false
theorem good_snoc {l : List Plain} {p : Plain} (h : Good l) (hn : good p.name = true) (ho : l = [] ∨ ∃ q, l[l.length - 1]? = some q ∧ nameLt q.name p.name) (hb : badOk p) : Good (l ++ [p]) := by
  refine ⟨fun q hq => ?_, ?_, fun q hq => ?_⟩
  · rcases List.mem_append.1 hq with hq | hq
    · exact h.names q hq
    · rw [List.mem_singleton.1 hq]; exact hn
  · rw [List.map_append, List.pairwise_append]
    refine ⟨h.order, by simp, fun a ha b hb => ?_⟩
    simp only [List.map_cons, List.map_nil, List.mem_singleton] at hb
    subst hb
    rcases ho with rfl | ⟨q, hq, hlt⟩
    · simp at ha
    · have hpos : 0 < l.length := by have := (List.getElem?_eq_some_iff.1 hq).1; omega
      obtain ⟨j, hj⟩ := List.mem_iff_getElem?.1 ha
      have hjl : j < l.length := by have := (List.getElem?_eq_some_iff.1 hj).1; simpa using this
      have hq' : (l.map (·.name))[l.length - 1]? = some q.name := by rw [List.getElem?_map, hq]; rfl
      rcases Nat.lt_or_ge j (l.length - 1) with hlt2 | hge
      · have := List.pairwise_iff_getElem.1 h.order j (l.length - 1) (by simpa using hjl) (by simp; omega) hlt2
        rw [(List.getElem?_eq_some_iff.1 hj).2, (List.getElem?_eq_some_iff.1 hq').2] at this
        exact List.lt_trans this hlt
      · obtain rfl : j = l.length - 1 := by omega
        rw [hq'] at hj
        rw [← Option.some.inj hj]; exact hlt
  · rcases List.mem_append.1 hq with hq | hq
    · exact h.bads q hq
    · rw [List.mem_singleton.1 hq]; exact hb
theorem not_good_name {l : List Plain} {i : Nat} {p : Plain} (hp : l[i]? = some p) (h : good p.name = false) : ¬ Good l := fun hg => by
  have := hg.names p (List.mem_of_getElem? hp)
  rw [h] at this; cases this
theorem not_good_order {l : List Plain} {i : Nat} {p q : Plain} (hp : l[i]? = some p) (hq : l[i + 1]? = some q) (h : ¬ nameLt p.name q.name) : ¬ Good l := fun hg => by
  have hl := (List.getElem?_eq_some_iff.1 hq).1
  have := List.pairwise_iff_getElem.1 hg.order i (i + 1) (by simp; omega) (by simpa using hl) (Nat.lt_succ_self _)
  simp only [List.getElem_map] at this
  rw [(List.getElem?_eq_some_iff.1 hp).2, (List.getElem?_eq_some_iff.1 hq).2] at this
  exact h this
/-- The first numbers of a list are in order and in range. -/
def badUpto (xs : List Int) (n : Nat) : Prop := xs.Pairwise (· < ·) ∧ ∀ k, k ∈ xs → 0 ≤ k ∧ k < (n : Int)
theorem badUpto_nil (n : Nat) : badUpto [] n := ⟨by simp, by simp⟩
theorem badUpto_step {xs : List Int} {n j : Nat} (h : badUpto (xs.take j) n) {k : Int} (hk : xs[j]? = some k) (h0 : 0 ≤ k) (hn : k < n) (ho : j = 0 ∨ ∃ q, xs[j - 1]? = some q ∧ q < k) : badUpto (xs.take (j + 1)) n := by
  have hl := (List.getElem?_eq_some_iff.1 hk).1
  have e : xs.take (j + 1) = xs.take j ++ [k] := by rw [List.take_succ_eq_append_getElem hl, (List.getElem?_eq_some_iff.1 hk).2]
  rw [e]
  refine ⟨?_, fun x hx => ?_⟩
  · rw [List.pairwise_append]
    refine ⟨h.1, by simp, fun a ha b hb => ?_⟩
    rw [List.mem_singleton.1 hb]
    rcases ho with rfl | ⟨q, hq, hlt⟩
    · simp at ha
    · obtain ⟨m, hm⟩ := List.mem_iff_getElem?.1 ha
      have hml : m < j := by have := (List.getElem?_eq_some_iff.1 hm).1; simp at this; omega
      have hq' : (xs.take j)[j - 1]? = some q := by rw [List.getElem?_take_of_lt (by omega)]; exact hq
      rcases Nat.lt_or_ge m (j - 1) with h1 | h1
      · have h2 := (List.getElem?_eq_some_iff.1 hm).1
        have h3 := (List.getElem?_eq_some_iff.1 hq').1
        have := List.pairwise_iff_getElem.1 h.1 m (j - 1) h2 h3 h1
        rw [(List.getElem?_eq_some_iff.1 hm).2, (List.getElem?_eq_some_iff.1 hq').2] at this
        omega
      · obtain rfl : m = j - 1 := by omega
        rw [hq'] at hm
        rw [← Option.some.inj hm]; exact hlt
  · rcases List.mem_append.1 hx with hx | hx
    · exact h.2 x hx
    · rw [List.mem_singleton.1 hx]; exact ⟨h0, hn⟩
theorem not_badOk_order {p : Plain} {j : Nat} {q k : Int} (hq : p.bad[j]? = some q) (hk : p.bad[j + 1]? = some k) (h : ¬ q < k) : ¬ badOk p := fun hb => by
  have := List.pairwise_iff_getElem.1 hb.1 j (j + 1) (List.getElem?_eq_some_iff.1 hq).1 (List.getElem?_eq_some_iff.1 hk).1 (Nat.lt_succ_self _)
  rw [(List.getElem?_eq_some_iff.1 hq).2, (List.getElem?_eq_some_iff.1 hk).2] at this
  exact h this
/-- The disk while one more file is being loaded. -/
def Dmid (L : List Plain) (f : FileS) : Disk := { Disk.load L with files := L.map loadFile ++ [f] }
theorem Dmid_file (L : List Plain) (f : FileS) : (Dmid L f).files[L.length]? = some f := by
  unfold Dmid
  simp only []
  rw [List.getElem?_append_right (by simp)]
  simp
theorem Dmid_modify (L : List Plain) (f : FileS) (g : FileS → FileS) : (Dmid L f).modify L.length g = Dmid L (g f) := by
  unfold Dmid Disk.modify
  have : (L.map loadFile ++ [f]).modify L.length g = L.map loadFile ++ [g f] := by
    apply List.ext_getElem?
    intro j
    rw [List.getElem?_modify]
    rcases Nat.lt_trichotomy j L.length with h | h | h
    · have hne : ¬ L.length = j := by omega
      rw [List.getElem?_append_left (by simpa using h), List.getElem?_append_left (by simpa using h)]; simp [hne]
    · subst h
      rw [List.getElem?_append_right (by simp), List.getElem?_append_right (by simp)]; simp
    · rw [List.getElem?_eq_none (by simp; omega), List.getElem?_eq_none (by simp; omega)]; rfl
  simp only [this]
def fileJ (p : Plain) (j : Nat) : FileS := ⟨clearBad (p.bad.take j) p.data, [], fun k => decide ((k : Int) ∈ p.bad.take j), fun _ => false, fun _ => false⟩
theorem fileJ_zero (p : Plain) : { FileS.new with seen := p.data } = fileJ p 0 := by
  unfold fileJ FileS.new
  simp [clearBad]
theorem fileJ_succ {p : Plain} {j : Nat} {k : Int} (hk : p.bad[j]? = some k) (h0 : 0 ≤ k) :
    { (fileJ p j) with seen := clearAt k.toNat (fileJ p j).seen, badSeen := fun x => (fileJ p j).badSeen x || decide (x = k.toNat) } = fileJ p (j + 1) := by
  have hl := (List.getElem?_eq_some_iff.1 hk).1
  have e : p.bad.take (j + 1) = p.bad.take j ++ [k] := by rw [List.take_succ_eq_append_getElem hl, (List.getElem?_eq_some_iff.1 hk).2]
  unfold fileJ
  simp only [e, clearBad_snoc, FileS.mk.injEq, true_and, and_true]
  funext x
  rw [Bool.eq_iff_iff]
  simp only [Bool.or_eq_true, decide_eq_true_eq, List.mem_append, List.mem_singleton]
  constructor
  · rintro (h | h)
    · exact .inl h
    · right; omega
  · rintro (h | h)
    · exact .inl h
    · right; omega
theorem fileJ_all (p : Plain) : { (fileJ p p.bad.length) with safe := (fileJ p p.bad.length).seen, badSafe := (fileJ p p.bad.length).badSeen } = loadFile p := by
  unfold fileJ loadFile
  simp
theorem fileJ_len (p : Plain) (j : Nat) : (fileJ p j).seen.length = p.data.length := by unfold fileJ; simp only []; rw [clearBad_len]
theorem load_snoc {L : List Plain} {p : Plain} (h : p.name ∉ L.map (·.name)) :
    { (Dmid L (loadFile p)) with now := put (Disk.load L).now p.name L.length, sure := put (Disk.load L).sure p.name L.length } = Disk.load (L ++ [p]) := by
  have e : put (named L 0) p.name L.length = named L 0 ++ [(p.name, L.length)] := by
    unfold put
    have : erase (named L 0) p.name = named L 0 := by
      unfold erase
      refine List.filter_eq_self.2 fun q hq => ?_
      have : q.1 ≠ p.name := fun e => h (by rw [← named_names L 0, ← e]; exact List.mem_map_of_mem hq)
      simpa using this
    rw [this]
  unfold Dmid Disk.load
  simp only [e, named_snoc, Nat.zero_add, List.map_append, List.map_cons, List.map_nil]
theorem notin_of_good {L : List Plain} {p : Plain} (h : Good (L ++ [p])) : p.name ∉ L.map (·.name) := by
  have := names_nodup h.order
  rw [List.map_append, List.nodup_append] at this
  intro hm
  exact this.2.2 _ hm p.name (by simp) rfl
end Go.Proofs.YtglhedahannjiaaGreatDoor.Dm

/- The disk of lives, as plain data. -/
namespace Go.Proofs.YtglhedahannjiaaGreatDoor.Dm
def nA : Name := ⟨#[97]⟩
def file123 : FileS := FileS.add [1, 2, 3] FileS.new
def live1 : Disk := { Disk.new with files := [FileS.new], now := [(nA, 0)], changes := [⟨none, some (nA, 0)⟩], since := 1, count := 1 }
def live2 : Disk := { live1 with files := [file123], since := 2, count := 2 }
theorem lives_create : Disk.new.create nA = (0, live1) := rfl
theorem lives_append : live1.append nA [1, 2, 3] = (0, live2) := rfl
theorem lives_there : (live2.create nA).1 = eThere := rfl
theorem lives_waiting : live2.waitingN = 1 := rfl
theorem lives_changes : live2.changes.length = 1 := rfl
theorem crash_one {D : Disk} {fs : List Int} {k : Int} {n : Name} {i : Nat} (h : D.left k.toNat = [(n, i)]) : D.crash fs k = [plain n ((D.file i).fated (fatesFrom fs 0 (waitList (D.file i)).length))] := by
  unfold Disk.crash inOrder byBirth
  rw [h, List.mergeSort_singleton, List.mergeSort_singleton]
  simp [sidesBy, sideOf]
theorem crash_none {D : Disk} {fs : List Int} {k : Int} (h : D.left k.toNat = []) : D.crash fs k = [] := by
  unfold Disk.crash inOrder byBirth
  rw [h, List.mergeSort_nil, List.mergeSort_nil]
  rfl
theorem lives_crash : live2.crash [1] 1 = [⟨nA, [1, 2, 3], []⟩] := by rw [crash_one (n := nA) (i := 0) rfl]; rfl
theorem lives_safe : live2.crash [] 0 = [] := crash_none rfl
end Go.Proofs.YtglhedahannjiaaGreatDoor.Dm

/- The plain law of DiskSectors: one file of which some bytes are safe and some wait. -/
namespace Go.Proofs.YtglhedahannjiaaGreatDoor.Dm
set_option linter.unusedVariables false
section
variable (F S : List Int)
end
end Go.Proofs.YtglhedahannjiaaGreatDoor.Dm

/- The plain law of DiskSectors: what the fates leave, as the statement says it. -/
namespace Go.Proofs.YtglhedahannjiaaGreatDoor.Dm
set_option linter.unusedVariables false
section
variable (F S fs : List Int)
end
end Go.Proofs.YtglhedahannjiaaGreatDoor.Dm
