/- A part of the proof of segmentMemoryUpto_holds: Dm, Dp, Dp2, Dp3, Dp4, Dp5, Sp1, Sp3, Sp4, Sp5, Sp6, Sp7, Sp8, Sq, Sr, Su, Sp2, Dp6, Er0, Sx. No condition. -/

/- The disk as plain data: what each call does (no program in sight). -/
namespace Go.Proofs.YtkmmlfphcfcbgaaGreatDoor.Dm
set_option linter.unusedVariables false
abbrev Name := ByteArray
/-- How many sectors n bytes have. -/
def sectors (n : Nat) : Nat := (n + 511) / 512
/-- A file: its bytes as seen and as safe; sector by sector: can't it be read (as seen, as safe), does it wait. -/
structure FileS where
  seen : List Int
  safe : List Int
  badSeen : Nat → Bool
  badSafe : Nat → Bool
  waits : Nat → Bool
def FileS.new : FileS := ⟨[], [], fun _ => false, fun _ => false, fun _ => false⟩
/-- A change of names that waits: this name goes, this name leads to that file. -/
structure Chg where
  del : Option Name
  put : Option (Name × Nat)
structure Disk where
  files : List FileS
  now : List (Name × Nat)
  sure : List (Name × Nat)
  changes : List Chg
  fails : List (Int × Int)
  cut : Int
  since : Nat
  count : Nat
  off : Bool
def Disk.new : Disk := ⟨[], [], [], [], [], 0, 0, 0, false⟩
/-- The errors by number (0: none), as the references number them. -/
abbrev Err := Nat
abbrev eArg : Err := 1
abbrev eIo : Err := 6
abbrev eDown : Err := 7
abbrev eGone : Err := 8
abbrev eThere : Err := 9
def good (n : Name) : Bool := decide (1 ≤ n.size) && decide (n.size ≤ 64)
def find (l : List (Name × Nat)) (n : Name) : Option Nat := (l.find? fun p => decide (p.1 = n)).map (·.2)
def erase (l : List (Name × Nat)) (n : Name) : List (Name × Nat) := l.filter fun p => !decide (p.1 = n)
def put (l : List (Name × Nat)) (n : Name) (i : Nat) : List (Name × Nat) := erase l n ++ [(n, i)]
def apply (l : List (Name × Nat)) (c : Chg) : List (Name × Nat) :=
  let l1 := match c.del with | some n => erase l n | none => l
  match c.put with | some (n, i) => put l1 n i | none => l1
/-- The names behind the first n changes that wait. -/
def Disk.left (d : Disk) (n : Nat) : List (Name × Nat) := (d.changes.take n).foldl apply d.sure
/-- One operation more. -/
def Disk.tick (d : Disk) : Disk := { d with count := d.count + 1, since := d.since + 1 }
/-- The power goes. -/
def Disk.dark (d : Disk) : Disk := { d with off := true }
inductive What where
  | goes
  | cut
  | fails (part : Int)
def Disk.armed (d : Disk) : What :=
  if (d.since : Int) = d.cut then .cut else
  match d.fails.find? fun p => decide (p.1 = (d.since : Int)) with
  | some p => .fails p.2
  | none => .goes
def failTo (ref : Err) (n : Int) (part : Option (Int → Disk → Disk)) (d : Disk) : Disk := match part with | some p => if ref = 0 then p n d else d | none => d
/-- An operation: why it is refused, what it does, whether it is done when the power goes in it, what is done when it fails. -/
def Disk.run (d : Disk) (refused : Err) (act : Disk → Disk) (waits : Bool) (part : Option (Int → Disk → Disk)) : Err × Disk :=
  if d.off = true then (eDown, d) else
  match d.tick.armed with
  | .cut => (eDown, if refused = 0 ∧ waits = true then act d.tick.dark else d.tick.dark)
  | .fails n => (eIo, failTo refused n part d.tick)
  | .goes => if refused = 0 then (0, act d.tick) else (refused, d.tick)
def Disk.gone (d : Disk) (n : Name) : Err := if (find d.now n).isSome then 0 else eGone
def Disk.modify (d : Disk) (i : Nat) (f : FileS → FileS) : Disk := { d with files := d.files.modify i f }
def Disk.doCreate (n : Name) (d : Disk) : Disk :=
  { d with files := d.files ++ [FileS.new], now := put d.now n d.files.length, changes := d.changes ++ [⟨none, some (n, d.files.length)⟩] }
def Disk.refuseCreate (d : Disk) (n : Name) : Err := if good n = false then eArg else if (find d.now n).isSome then eThere else 0
def Disk.create (d : Disk) (n : Name) : Err × Disk := d.run (d.refuseCreate n) (Disk.doCreate n) true none
/-- Data behind a file's bytes. -/
def FileS.add (data : List Int) (f : FileS) : FileS :=
  if data = [] then f else
  { f with seen := f.seen ++ data,
           badSeen := fun k => f.badSeen k && !(decide (f.seen.length / 512 ≤ k) && decide (k < sectors (f.seen.length + data.length))),
           waits := fun k => f.waits k || (decide (f.seen.length / 512 ≤ k) && decide (k < sectors (f.seen.length + data.length))) }
def Disk.onFile (n : Name) (g : FileS → FileS) (d : Disk) : Disk := match find d.now n with | some i => d.modify i g | none => d
def Disk.append (d : Disk) (n : Name) (data : List Int) : Err × Disk :=
  d.run (d.gone n) (Disk.onFile n (FileS.add data)) true (some fun p => Disk.onFile n (FileS.add (data.take p.toNat)))
def FileS.sync (f : FileS) : FileS := { f with safe := f.seen, badSafe := f.badSeen, waits := fun _ => false }
def Disk.sync (d : Disk) (n : Name) : Err × Disk := d.run (d.gone n) (Disk.onFile n FileS.sync) false none
def Disk.doSyncNames (d : Disk) : Disk := { d with sure := d.left d.changes.length, changes := [] }
def Disk.syncNames (d : Disk) : Err × Disk := d.run 0 Disk.doSyncNames false none
def Disk.arm (d : Disk) (fails : List (Int × Int)) (cut : Int) : Disk := if d.off = true then d else { d with fails := fails, cut := cut, since := 0 }
/-- A file of an image: its name, its bytes, the numbers of its bad sectors. -/
structure Plain where
  name : Name
  data : List Int
  bad : List Int
/-- The numbers below m for which b says yes, rising. -/
def numbers (b : Nat → Bool) (m : Nat) : List Int := ((List.range m).filter b).map fun k : Nat => (k : Int)
/-- A file's bytes and its sectors that can't be read. -/
structure Side where
  data : List Int
  bad : Nat → Bool
def plain (n : Name) (s : Side) : Plain := ⟨n, s.data, numbers s.bad (sectors s.data.length)⟩
def nameLe (a b : Name) : Bool := decide (a.data.toList ≤ b.data.toList)
def inOrder (l : List (Name × Nat)) : List (Name × Nat) := l.mergeSort fun a b => nameLe a.1 b.1
def Disk.file (d : Disk) (i : Nat) : FileS := (d.files[i]?).getD FileS.new
end Go.Proofs.YtkmmlfphcfcbgaaGreatDoor.Dm

/- The disk as plain data: what a loss of power leaves, what is seen, what an image loads to. -/
namespace Go.Proofs.YtkmmlfphcfcbgaaGreatDoor.Dm
set_option linter.unusedVariables false
/-- The sectors that wait, rising. -/
def waitList (f : FileS) : List Nat := (List.range (sectors f.seen.length)).filter f.waits
/-- What one waiting sector's fate does. -/
def setSector (seen : List Int) (k : Nat) (fate : Int) (s : Side) : Side :=
  if fate = 0 then s else
  let to := min ((k + 1) * 512) seen.length
  let d1 := s.data ++ List.replicate (to - s.data.length) 0
  let e := min ((k + 1) * 512) d1.length
  let d2 := d1.take (k * 512) ++ List.replicate (e - k * 512) 0 ++ d1.drop e
  if fate = 1 then ⟨d2.take (k * 512) ++ (seen.take to).drop (k * 512) ++ d2.drop to, fun j => s.bad j && !decide (j = k)⟩
  else ⟨d2, fun j => s.bad j || decide (j = k)⟩
def fatedBy (seen : List Int) : List (Nat × Int) → Side → Side
  | [], s => s
  | p :: l, s => fatedBy seen l (setSector seen p.1 p.2 s)
/-- What fates leave of a file. -/
def FileS.fated (f : FileS) (fates : List Int) : Side := fatedBy f.seen ((waitList f).zip fates) ⟨f.safe, f.badSafe⟩
/-- n fates from a place on; where none is told, it is 0. -/
def fatesFrom (fs : List Int) (from_ n : Nat) : List Int := (List.range n).map fun j => (fs[from_ + j]?).getD 0
def sidesBy (D : Disk) (fs : List Int) : List (Name × Nat) → Nat → List (Name × Side)
  | [], _ => []
  | p :: l, c => (p.1, (D.file p.2).fated (fatesFrom fs c (waitList (D.file p.2)).length)) :: sidesBy D fs l (c + (waitList (D.file p.2)).length)
def byBirth (l : List (Name × Nat)) : List (Name × Nat) := l.mergeSort fun a b => decide (a.2 ≤ b.2)
def sideOf (l : List (Name × Side)) (n : Name) : Side := ((l.find? fun p => decide (p.1 = n)).map (·.2)).getD ⟨[], fun _ => false⟩
/-- What a loss of power leaves. -/
def Disk.crash (D : Disk) (fs : List Int) (k : Int) : List Plain :=
  (inOrder (D.left k.toNat)).map fun p => plain p.1 (sideOf (sidesBy D fs (byBirth (D.left k.toNat)) 0) p.1)
def Disk.waitingN (D : Disk) : Nat := (D.now.map fun p => (waitList (D.file p.2)).length).sum
/-- A file's bytes and its bad sectors, as seen. -/
def Disk.read (D : Disk) (n : Name) : Err × List Int × List Int :=
  if D.off = true then (eDown, [], []) else
  match find D.now n with
  | none => (eGone, [], [])
  | some i => (0, (D.file i).seen, numbers (D.file i).badSeen (sectors (D.file i).seen.length))
/-- The names, in order. -/
def Disk.names (D : Disk) : Err × List (Name × Nat) := if D.off = true then (eDown, []) else (0, inOrder D.now)
/-- Nothing is told to fail. -/
structure Quiet (D : Disk) : Prop where
  off : D.off = false
  fails : D.fails = []
  cut : D.cut = 0
theorem Quiet.run {D : Disk} (h : Quiet D) (refused : Err) (act : Disk → Disk) (waits : Bool) (part : Option (Int → Disk → Disk)) : D.run refused act waits part = if refused = 0 then (0, act D.tick) else (refused, D.tick) := by
  unfold Disk.run
  rw [if_neg (by rw [h.off]; simp)]
  have : D.tick.armed = .goes := by
    unfold Disk.armed Disk.tick
    simp only [h.cut, h.fails, List.find?_nil]
    rw [if_neg (by omega)]
  rw [this]
end Go.Proofs.YtkmmlfphcfcbgaaGreatDoor.Dm

/- The pure disk: what the fates of its sectors leave of a file, byte by byte. -/
namespace Go.Proofs.YtkmmlfphcfcbgaaGreatDoor.Dm
set_option linter.unusedVariables false
/-- The fate of sector j (0 where none is told). -/
def fateOf : List (Nat × Int) → Nat → Int
  | [], _ => 0
  | p :: l, j => if p.1 = j then p.2 else fateOf l j
/-- How long the file is then. -/
def longTo (n : Nat) : List (Nat × Int) → Nat → Nat
  | [], L => L
  | p :: l, L => longTo n l (if p.2 = 0 then L else max L (min ((p.1 + 1) * 512) n))
/-- Byte i. -/
def byteOf (seen safe : List Int) (W : Nat → Int) (i : Nat) : Int := if W (i / 512) = 0 then safe.getD i 0 else if W (i / 512) = 1 then seen.getD i 0 else 0
theorem eq_range {l : List Int} {n : Nat} {g : Nat → Int} (hl : l.length = n) (h : ∀ i, i < n → l[i]? = some (g i)) : l = (List.range n).map g := by
  apply List.ext_getElem?
  intro i
  rcases Nat.lt_or_ge i n with hi | hi
  · rw [h i hi, List.getElem?_map, List.getElem?_range hi]; rfl
  · rw [List.getElem?_eq_none (by omega), List.getElem?_eq_none (by simp; omega)]
theorem range_get {n : Nat} {g : Nat → Int} {i : Nat} (hi : i < n) : ((List.range n).map g)[i]? = some (g i) := by
  rw [List.getElem?_map, List.getElem?_range hi]; rfl
/-- One sector's fate, byte by byte. -/
theorem setSector_data {seen : List Int} {k : Nat} {fate : Int} {s : Side} {L : Nat} {g : Nat → Int} (hd : s.data = (List.range L).map g) (hL : L ≤ seen.length) (hk : k * 512 < seen.length)
    (hz : ∀ i, L ≤ i → i < seen.length → i / 512 ≠ k → g i = 0) (hf : fate ≠ 0) :
    (setSector seen k fate s).data = (List.range (max L (min ((k + 1) * 512) seen.length))).map fun i => if i / 512 = k then (if fate = 1 then seen.getD i 0 else 0) else g i := by
  generalize hT : min ((k + 1) * 512) seen.length = T
  have hlen : s.data.length = L := by rw [hd]; simp
  have hT1 : k * 512 < T := by omega
  have hT2 : T ≤ seen.length := by omega
  generalize hd1 : s.data ++ List.replicate (T - s.data.length) 0 = d1
  have hl1 : d1.length = max L T := by rw [← hd1]; simp [hlen]; omega
  have he : min ((k + 1) * 512) d1.length = T := by rw [hl1]; omega
  generalize hd2 : d1.take (k * 512) ++ List.replicate (T - k * 512) 0 ++ d1.drop T = d2
  have hl2 : d2.length = max L T := by rw [← hd2]; simp [hl1]; omega
  have g1 : ∀ i, i < max L T → d1[i]? = some (if i < L then g i else 0) := by
    intro i hi
    rw [← hd1]
    rcases Nat.lt_or_ge i L with h | h
    · rw [List.getElem?_append_left (by omega), hd, range_get h, if_pos h]
    · rw [List.getElem?_append_right (by omega), if_neg (by omega), List.getElem?_replicate, if_pos (by omega)]
  have g2 : ∀ i, i < max L T → d2[i]? = some (if k * 512 ≤ i ∧ i < T then 0 else if i < L then g i else 0) := by
    intro i hi
    rw [← hd2]
    rcases Nat.lt_or_ge i (k * 512) with h | h
    · rw [List.append_assoc, List.getElem?_append_left (by simp [hl1]; omega), List.getElem?_take_of_lt h, g1 i hi, if_neg (c := k * 512 ≤ i ∧ i < T) (by omega)]
    · rcases Nat.lt_or_ge i T with h2 | h2
      · rw [List.getElem?_append_left (by simp [hl1]; omega), List.getElem?_append_right (by simp [hl1]; omega), List.getElem?_replicate, if_pos (by simp [hl1]; omega), if_pos ⟨h, h2⟩]
      · rw [List.getElem?_append_right (by simp [hl1]; omega), List.getElem?_drop, if_neg (c := k * 512 ≤ i ∧ i < T) (by omega)]
        rw [← g1 i hi]; congr 1; simp [hl1]; omega
  have hin : ∀ i, i < max L T → (i / 512 = k ↔ k * 512 ≤ i ∧ i < T) := by intro i hi; omega
  have fin : ∀ i, i < max L T → (if i / 512 = k then (0 : Int) else g i) = if k * 512 ≤ i ∧ i < T then 0 else if i < L then g i else 0 := by
    intro i hi
    by_cases h : i / 512 = k
    · rw [if_pos h, if_pos ((hin i hi).1 h)]
    · rw [if_neg h, if_neg (fun e => h ((hin i hi).2 e))]
      split
      · rfl
      · exact hz i (by omega) (by omega) h
  unfold setSector
  simp only [hf, if_false, hT, hd1, he, hd2]
  by_cases h1 : fate = 1
  · simp only [h1, if_true]
    refine eq_range (by simp [hl2]; omega) fun i hi => ?_
    have hl3 : (d2.take (k * 512)).length = k * 512 := by rw [List.length_take, hl2]; exact Nat.min_eq_left (Nat.le_trans (Nat.le_of_lt hT1) (Nat.le_max_right _ _))
    have hl4 : ((seen.take T).drop (k * 512)).length = T - k * 512 := by simp; omega
    rcases Nat.lt_or_ge i (k * 512) with h | h
    · rw [List.append_assoc, List.getElem?_append_left (by omega), List.getElem?_take_of_lt h, g2 i hi, if_neg (c := k * 512 ≤ i ∧ i < T) (by omega), if_neg (c := i / 512 = k) (by omega)]
      congr 1
      split
      · rfl
      · exact (hz i (by omega) (by omega) (by omega)).symm
    · rcases Nat.lt_or_ge i T with h2 | h2
      · rw [List.getElem?_append_left (by rw [List.length_append, hl3, hl4, Nat.add_sub_of_le (Nat.le_of_lt hT1)]; first | exact h2 | omega), List.getElem?_append_right (by omega), List.getElem?_drop, hl3, if_pos ((hin i hi).2 ⟨h, h2⟩)]
        rw [show k * 512 + (i - k * 512) = i by omega, List.getElem?_take_of_lt h2, List.getD_eq_getElem?_getD, List.getElem?_eq_getElem (by omega)]
        rfl
      · rw [List.getElem?_append_right (by rw [List.length_append, hl3, hl4, Nat.add_sub_of_le (Nat.le_of_lt hT1)]; first | exact h2 | omega), List.getElem?_drop, if_neg (c := i / 512 = k) (by omega)]
        have : T + (i - (List.take (k * 512) d2 ++ List.drop (k * 512) (List.take T seen)).length) = i := by rw [List.length_append, hl3, hl4]; omega
        rw [this, g2 i hi, if_neg (c := k * 512 ≤ i ∧ i < T) (by omega)]
        congr 1
        split
        · rfl
        · exact (hz i (by omega) (by omega) (by omega)).symm
  · simp only [h1, if_false]
    exact eq_range hl2 fun i hi => by rw [g2 i hi, fin i hi]
theorem setSector_zero {seen : List Int} {k : Nat} {s : Side} : setSector seen k 0 s = s := by unfold setSector; rw [if_pos rfl]
theorem setSector_bad {seen : List Int} {k : Nat} {fate : Int} {s : Side} (j : Nat) : (setSector seen k fate s).bad j = if j = k ∧ fate ≠ 0 then decide (fate ≠ 1) else s.bad j := by
  unfold setSector
  by_cases h0 : fate = 0
  · simp [h0]
  · by_cases h1 : fate = 1 <;> by_cases hj : j = k <;> simp [h0, h1, hj]
theorem fateOf_none {l : List (Nat × Int)} {j : Nat} (h : j ∉ l.map (·.1)) : fateOf l j = 0 := by
  induction l with
  | nil => rfl
  | cons p l ih =>
    simp only [List.map_cons, List.mem_cons, not_or] at h
    unfold fateOf
    rw [if_neg (Ne.symm h.1), ih h.2]
theorem longTo_le (n : Nat) : ∀ (l : List (Nat × Int)) (L : Nat), L ≤ longTo n l L
  | [], L => Nat.le_refl _
  | p :: l, L => by
    unfold longTo
    refine Nat.le_trans ?_ (longTo_le n l _)
    split <;> omega
theorem longTo_max {n : Nat} : ∀ (l : List (Nat × Int)) (L : Nat), L ≤ n → longTo n l L ≤ n
  | [], L, h => h
  | p :: l, L, h => by
    unfold longTo
    exact longTo_max l _ (by split <;> omega)
theorem longTo_mem {n : Nat} : ∀ (l : List (Nat × Int)) (L : Nat) (p : Nat × Int), p ∈ l → p.2 ≠ 0 → min ((p.1 + 1) * 512) n ≤ longTo n l L
  | q :: l, L, p, h, h0 => by
    rcases List.mem_cons.1 h with rfl | h
    · unfold longTo
      rw [if_neg h0]
      exact Nat.le_trans (Nat.le_max_right _ _) (longTo_le n l _)
    · unfold longTo
      exact longTo_mem l _ p h h0
/-- All fates, byte by byte. -/
theorem fatedBy_eq (seen safe : List Int) : ∀ (l : List (Nat × Int)) (W : Nat → Int) (s : Side) (L : Nat), (l.map (·.1)).Nodup → (∀ p, p ∈ l → p.1 * 512 < seen.length) → (∀ p, p ∈ l → W p.1 = 0) → safe.length ≤ L → L ≤ seen.length →
    (∀ j, W j ≠ 0 → min ((j + 1) * 512) seen.length ≤ L) → s.data = (List.range L).map (byteOf seen safe W) →
    (fatedBy seen l s).data = (List.range (longTo seen.length l L)).map (byteOf seen safe fun j => if W j ≠ 0 then W j else fateOf l j) ∧
    ∀ j, (fatedBy seen l s).bad j = if fateOf l j ≠ 0 then decide (fateOf l j ≠ 1) else s.bad j
  | [], W, s, L, _, _, _, _, _, _, hd => by
    refine ⟨?_, fun j => by simp [fatedBy, fateOf]⟩
    simp only [fatedBy, longTo, fateOf]
    rw [hd]
    congr 1
    funext i
    unfold byteOf
    by_cases h : W (i / 512) = 0 <;> simp [h]
  | p :: l, W, s, L, hn, hk, hW, hs, hL, hWL, hd => by
    obtain ⟨k, fate⟩ := p
    simp only [List.map_cons, List.nodup_cons] at hn
    have hkk : k * 512 < seen.length := hk (k, fate) List.mem_cons_self
    have hWk : W k = 0 := hW _ List.mem_cons_self
    simp only [fatedBy, longTo]
    by_cases hf : fate = 0
    · subst hf
      rw [setSector_zero, if_pos rfl]
      obtain ⟨h1, h2⟩ := fatedBy_eq seen safe l W s L hn.2 (fun p hp => hk p (List.mem_cons_of_mem _ hp)) (fun p hp => hW p (List.mem_cons_of_mem _ hp)) hs hL hWL hd
      have hfo : ∀ j, fateOf ((k, 0) :: l) j = fateOf l j := by
        intro j
        show (if k = j then 0 else fateOf l j) = _
        by_cases h : k = j
        · rw [if_pos h, ← h, fateOf_none hn.1]
        · rw [if_neg h]
      rw [h1]
      refine ⟨by congr 2; funext j; rw [hfo], fun j => by rw [h2, hfo]⟩
    · rw [if_neg hf]
      have hz : ∀ i, L ≤ i → i < seen.length → i / 512 ≠ k → byteOf seen safe W i = 0 := by
        intro i hi hi2 _
        have : W (i / 512) = 0 := by
          rcases Decidable.em (W (i / 512) = 0) with h | h
          · exact h
          · have := hWL _ h; omega
        unfold byteOf
        rw [if_pos this, List.getD_eq_getElem?_getD, List.getElem?_eq_none (by omega)]; rfl
      have hs1 := setSector_data (fate := fate) hd hL hkk hz hf
      have hW' : ∀ i, (if i / 512 = k then (if fate = 1 then seen.getD i 0 else 0) else byteOf seen safe W i) = byteOf seen safe (fun j => if j = k then fate else W j) i := by
        intro i
        unfold byteOf
        by_cases h : i / 512 = k <;> simp [h, hf]
      have hs2 : (setSector seen k fate s).data = (List.range (max L (min ((k + 1) * 512) seen.length))).map (byteOf seen safe (fun j => if j = k then fate else W j)) := by
        rw [hs1]; congr 1; funext i; exact hW' i
      obtain ⟨h1, h2⟩ := fatedBy_eq seen safe l (fun j => if j = k then fate else W j) (setSector seen k fate s) (max L (min ((k + 1) * 512) seen.length)) hn.2 (fun p hp => hk p (List.mem_cons_of_mem _ hp))
        (fun p hp => by
          have : p.1 ≠ k := fun e => hn.1 (by rw [← e]; exact List.mem_map_of_mem hp)
          simp only [this, if_false]; exact hW p (List.mem_cons_of_mem _ hp)) (by omega) (by omega)
        (fun j hj => by
          by_cases h : j = k
          · subst h; omega
          · simp only [h, if_false] at hj; have := hWL j hj; omega) hs2
      rw [h1]
      constructor
      · congr 2
        funext j
        by_cases h : j = k
        · subst h; simp [hf, hWk, fateOf]
        · have : ¬ k = j := fun e => h e.symm
          simp [h, fateOf, this]
      · intro j
        rw [h2, setSector_bad]
        by_cases h : j = k
        · subst h; simp [fateOf_none hn.1, fateOf, hf]
        · have : ¬ k = j := fun e => h e.symm
          simp [h, fateOf, this]
theorem waitList_nodup (f : FileS) : (waitList f).Nodup := List.nodup_range.filter _
theorem waitList_mem {f : FileS} {k : Nat} : k ∈ waitList f ↔ k < sectors f.seen.length ∧ f.waits k = true := by unfold waitList; simp
theorem zip_map_nodup {ks : List Nat} {fs : List Int} (h : ks.Nodup) : ((ks.zip fs).map (·.1)).Nodup := by
  have : ∀ (ks : List Nat) (fs : List Int), ((ks.zip fs).map (·.1)).Sublist ks := by
    intro ks
    induction ks with
    | nil => intro fs; simp
    | cons k ks ih =>
      intro fs
      cases fs with
      | nil => simp
      | cons a fs => simpa using (ih fs)
  exact h.sublist (this ks fs)
theorem zip_mem {ks : List Nat} {fs : List Int} {p : Nat × Int} (h : p ∈ ks.zip fs) : p.1 ∈ ks := (List.of_mem_zip (a := p.1) (b := p.2) h).1
/-- What fates leave of a file, byte by byte. -/
theorem fated_eq (f : FileS) (hs : f.safe.length ≤ f.seen.length) (fates : List Int) :
    (f.fated fates).data = (List.range (longTo f.seen.length ((waitList f).zip fates) f.safe.length)).map (byteOf f.seen f.safe (fateOf ((waitList f).zip fates))) ∧
    ∀ j, (f.fated fates).bad j = if fateOf ((waitList f).zip fates) j ≠ 0 then decide (fateOf ((waitList f).zip fates) j ≠ 1) else f.badSafe j := by
  have hm : ∀ p, p ∈ (waitList f).zip fates → p.1 * 512 < f.seen.length := by
    intro p hp
    have := (waitList_mem.1 (zip_mem hp)).1
    unfold sectors at this; omega
  obtain ⟨h1, h2⟩ := fatedBy_eq f.seen f.safe ((waitList f).zip fates) (fun _ => 0) ⟨f.safe, f.badSafe⟩ f.safe.length (zip_map_nodup (waitList_nodup f)) hm (fun _ _ => rfl) (Nat.le_refl _) hs (fun _ h => absurd rfl h)
    (eq_range rfl fun i hi => by simp [byteOf, List.getElem?_eq_getElem hi])
  unfold FileS.fated
  refine ⟨?_, h2⟩
  rw [h1]
  congr 2
end Go.Proofs.YtkmmlfphcfcbgaaGreatDoor.Dm

/- The pure disk: what holds of every disk that the calls make. -/
namespace Go.Proofs.YtkmmlfphcfcbgaaGreatDoor.Dm
set_option linter.unusedVariables false
/-- What holds of every file. -/
structure FOK (f : FileS) : Prop where
  sub : f.safe.length ≤ f.seen.length
  agree : ∀ i, f.waits (i / 512) = false → f.seen[i]? = f.safe[i]?
  agreeBad : ∀ k, f.waits k = false → f.badSeen k = f.badSafe k
  wlt : ∀ k, f.waits k = true → k < sectors f.seen.length
  wbad : ∀ k, f.waits k = true → f.badSeen k = false
  bseen : ∀ k, f.badSeen k = true → k < sectors f.seen.length
  bsafe : ∀ k, f.badSafe k = true → k < sectors f.safe.length
  zseen : ∀ i, f.badSeen (i / 512) = true → f.seen.getD i 0 = 0
  zsafe : ∀ i, f.badSafe (i / 512) = true → f.safe.getD i 0 = 0
  byteSeen : ∀ x, x ∈ f.seen → 0 ≤ x ∧ x < 256
  byteSafe : ∀ x, x ∈ f.safe → 0 ≤ x ∧ x < 256
theorem sectors_lt {k n : Nat} : k < sectors n ↔ k * 512 < n := by unfold sectors; omega
theorem FOK.new : FOK FileS.new := by
  unfold FileS.new
  constructor <;> simp
theorem FOK.sync {f : FileS} (h : FOK f) : FOK f.sync := by
  unfold FileS.sync
  exact ⟨Nat.le_refl _, fun _ _ => rfl, fun _ _ => rfl, fun _ h => (by simp at h), fun _ h => (by simp at h), h.bseen, h.bseen, h.zseen, h.zseen, h.byteSeen, h.byteSeen⟩
theorem FOK.add {f : FileS} (h : FOK f) (data : List Int) (hd : ∀ x, x ∈ data → 0 ≤ x ∧ x < 256) : FOK (f.add data) := by
  unfold FileS.add
  split
  · exact h
  · rename_i hne
    have hpos : 0 < data.length := List.length_pos_iff.2 hne
    have hs := h.sub
    have key : ∀ k, (decide (f.seen.length / 512 ≤ k) && decide (k < sectors (f.seen.length + data.length))) = true ↔ f.seen.length / 512 ≤ k ∧ k < sectors (f.seen.length + data.length) := by simp
    constructor
    · show f.safe.length ≤ (f.seen ++ data).length; simp; omega
    · intro i hw
      show (f.seen ++ data)[i]? = f.safe[i]?
      simp only [Bool.or_eq_false_iff] at hw
      obtain ⟨hw1, hw2⟩ := hw
      have hw3 : ¬ (f.seen.length / 512 ≤ i / 512 ∧ i / 512 < sectors (f.seen.length + data.length)) := fun e => by rw [(key _).2 e] at hw2; cases hw2
      have := h.agree i hw1
      rcases Nat.lt_or_ge i f.seen.length with hi | hi
      · rw [List.getElem?_append_left hi, this]
      · have : (f.seen ++ data).length ≤ i := by simp only [List.length_append]; unfold sectors at hw3; omega
        rw [List.getElem?_eq_none this, List.getElem?_eq_none (by omega)]
    · intro k hw
      simp only [Bool.or_eq_false_iff] at hw
      show (f.badSeen k && !(decide (f.seen.length / 512 ≤ k) && decide (k < sectors (f.seen.length + data.length)))) = f.badSafe k
      rw [hw.2, ← h.agreeBad k hw.1]; simp
    · intro k hw
      show k < sectors (f.seen ++ data).length
      rw [List.length_append]
      simp only [Bool.or_eq_true] at hw
      rcases hw with hw | hw
      · have := h.wlt k hw; rw [sectors_lt] at this ⊢; omega
      · exact ((key k).1 hw).2
    · intro k hw
      show (f.badSeen k && !(decide (f.seen.length / 512 ≤ k) && decide (k < sectors (f.seen.length + data.length)))) = false
      simp only [Bool.or_eq_true] at hw
      rcases hw with hw | hw
      · rw [h.wbad k hw]; rfl
      · rw [hw]; simp
    · intro k hb
      show k < sectors (f.seen ++ data).length
      simp only [Bool.and_eq_true] at hb
      have := h.bseen k hb.1
      rw [List.length_append]
      rw [sectors_lt] at this ⊢; omega
    · exact h.bsafe
    · intro i hb
      show (f.seen ++ data).getD i 0 = 0
      simp only [Bool.and_eq_true, Bool.not_eq_true'] at hb
      have h1 := h.zseen i hb.1
      have hw3 : ¬ (f.seen.length / 512 ≤ i / 512 ∧ i / 512 < sectors (f.seen.length + data.length)) := fun e => by rw [(key _).2 e] at hb; cases hb.2
      rcases Nat.lt_or_ge i f.seen.length with hi | hi
      · rw [List.getD_eq_getElem?_getD, List.getElem?_append_left hi, ← List.getD_eq_getElem?_getD]; exact h1
      · rw [List.getD_eq_getElem?_getD, List.getElem?_eq_none]
        · rfl
        · simp only [List.length_append]; unfold sectors at hw3; omega
    · exact h.zsafe
    · intro x hx
      rcases List.mem_append.1 hx with hx | hx
      · exact h.byteSeen x hx
      · exact hd x hx
    · exact h.byteSafe
/-! ### Names -/
structure Ns (N : Nat) (l : List (Name × Nat)) : Prop where
  names : (l.map (·.1)).Nodup
  ids : (l.map (·.2)).Nodup
  lt : ∀ p, p ∈ l → p.2 < N
  good : ∀ p, p ∈ l → good p.1 = true
theorem Ns.nil (N : Nat) : Ns N [] := ⟨by simp, by simp, by simp, by simp⟩
theorem Ns.more {N M : Nat} {l : List (Name × Nat)} (h : Ns N l) (hM : N ≤ M) : Ns M l := ⟨h.names, h.ids, fun p hp => Nat.lt_of_lt_of_le (h.lt p hp) hM, h.good⟩
theorem Ns.erase {N : Nat} {l : List (Name × Nat)} (h : Ns N l) (n : Name) : Ns N (erase l n) := by
  unfold Dm.erase
  exact ⟨h.names.sublist (List.filter_sublist.map _), h.ids.sublist (List.filter_sublist.map _), fun p hp => h.lt p (List.mem_filter.1 hp).1, fun p hp => h.good p (List.mem_filter.1 hp).1⟩
theorem Ns.put {N : Nat} {l : List (Name × Nat)} (h : Ns N l) {n : Name} {i : Nat} (hg : Dm.good n = true) (hi : i < N) (hid : i ∉ (Dm.erase l n).map (·.2)) : Ns N (put l n i) := by
  have he := h.erase n
  unfold Dm.put
  refine ⟨?_, ?_, ?_, ?_⟩
  · rw [List.map_append, List.nodup_append]
    refine ⟨he.names, by simp, ?_⟩
    intro a ha b hb e
    simp only [List.map_cons, List.map_nil, List.mem_singleton] at hb
    obtain ⟨p, hp, rfl⟩ := List.mem_map.1 ha
    have := (List.mem_filter.1 hp).2
    rw [e, hb] at this
    simp at this
  · rw [List.map_append, List.nodup_append]
    refine ⟨he.ids, by simp, ?_⟩
    intro a ha b hb e
    simp only [List.map_cons, List.map_nil, List.mem_singleton] at hb
    exact hid (by rw [← hb, ← e]; exact ha)
  · intro p hp
    rcases List.mem_append.1 hp with hp | hp
    · exact he.lt p hp
    · obtain rfl := List.mem_singleton.1 hp; exact hi
  · intro p hp
    rcases List.mem_append.1 hp with hp | hp
    · exact he.good p hp
    · obtain rfl := List.mem_singleton.1 hp; exact hg
theorem find_iff {l : List (Name × Nat)} (hl : (l.map (·.1)).Nodup) (n : Name) (i : Nat) : find l n = some i ↔ (n, i) ∈ l := by
  induction l with
  | nil => simp [find]
  | cons p l ih =>
    simp only [List.map_cons, List.nodup_cons] at hl
    have ih := ih hl.2
    simp only [find, List.find?_cons] at ih ⊢
    by_cases h : p.1 = n
    · simp only [h, decide_true, Option.map_some, Option.some.injEq, List.mem_cons]
      constructor
      · rintro rfl; left; rw [← h]
      · rintro (h2 | h2)
        · rw [← h2]
        · exact absurd (List.mem_map_of_mem (f := (·.1)) h2) (by rw [h] at hl; exact hl.1)
    · simp only [h, decide_false, ih, List.mem_cons]
      constructor
      · exact .inr
      · rintro (h2 | h2)
        · exact absurd (by rw [← h2]) h
        · exact h2
/-- What holds of every disk. -/
structure Inv (D : Disk) : Prop where
  left : D.left D.changes.length = D.now
  each : ∀ k, k ≤ D.changes.length → Ns D.files.length (D.left k)
  del : ∀ c, c ∈ D.changes → ∀ n, c.del = some n → good n = true
  put : ∀ c, c ∈ D.changes → ∀ p, c.put = some p → p.2 < D.files.length
  files : ∀ f, f ∈ D.files → FOK f
theorem Inv.now {D : Disk} (h : Inv D) : Ns D.files.length D.now := by rw [← h.left]; exact h.each _ (Nat.le_refl _)
theorem Inv.sure {D : Disk} (h : Inv D) : Ns D.files.length D.sure := by
  have := h.each 0 (Nat.zero_le _)
  simpa [Disk.left] using this
theorem Inv.new : Inv Disk.new := by
  unfold Disk.new
  refine ⟨rfl, ?_, ?_, ?_, ?_⟩
  · intro k hk; simp [Disk.left]; exact Ns.nil _
  · intro c hc; simp at hc
  · intro c hc; simp at hc
  · intro c hc; simp at hc
theorem Inv.congr {D D' : Disk} (h : Inv D) (h1 : D'.files = D.files) (h2 : D'.now = D.now) (h3 : D'.sure = D.sure) (h4 : D'.changes = D.changes) : Inv D' := by
  have hl : ∀ k, D'.left k = D.left k := by intro k; unfold Disk.left; rw [h3, h4]
  exact ⟨by rw [hl, h4, h2]; exact h.left, fun k hk => by rw [hl, h1]; exact h.each k (by rw [← h4]; exact hk), fun c hc => h.del c (by rw [← h4]; exact hc), fun c hc p hp => by rw [h1]; exact h.put c (by rw [← h4]; exact hc) p hp, fun f hf => h.files f (by rw [← h1]; exact hf)⟩
theorem Inv.tick {D : Disk} (h : Inv D) : Inv D.tick := h.congr rfl rfl rfl rfl
theorem Inv.dark {D : Disk} (h : Inv D) : Inv D.dark := h.congr rfl rfl rfl rfl
/-- A change of names more. -/
theorem Inv.change {D D' : Disk} (h : Inv D) (c : Chg) {fs : List FileS} (h1 : D'.files = D.files ++ fs) (h2 : D'.now = apply D.now c) (h3 : D'.sure = D.sure) (h4 : D'.changes = D.changes ++ [c]) (hfs : ∀ f, f ∈ fs → FOK f)
    (hn : Ns D'.files.length D'.now) (hdel : ∀ n, c.del = some n → good n = true) (hput : ∀ p, c.put = some p → p.2 < D'.files.length) : Inv D' := by
  have hl : ∀ k, k ≤ D.changes.length → D'.left k = D.left k := by
    intro k hk; unfold Disk.left; rw [h3, h4, List.take_append_of_le_length hk]
  have hl2 : D'.left D'.changes.length = D'.now := by
    have : D'.left D'.changes.length = apply (D.left D.changes.length) c := by
      unfold Disk.left
      rw [h3, h4, List.take_of_length_le (Nat.le_refl _), List.take_of_length_le (Nat.le_refl _), List.foldl_append]
      rfl
    rw [this, h.left, h2]
  have hM : D.files.length ≤ D'.files.length := by rw [h1, List.length_append]; omega
  refine ⟨hl2, fun k hk => ?_, fun d hd => ?_, fun d hd p hp => ?_, fun f hf => ?_⟩
  · rcases Nat.lt_or_ge D.changes.length k with hkl | hkl
    · have : k = D'.changes.length := by rw [h4] at hk ⊢; simp at hk ⊢; omega
      rw [this, hl2]; exact hn
    · rw [hl k hkl]; exact (h.each k hkl).more hM
  · rw [h4] at hd
    rcases List.mem_append.1 hd with hd | hd
    · exact h.del d hd
    · obtain rfl := List.mem_singleton.1 hd; exact hdel
  · rw [h4] at hd
    rcases List.mem_append.1 hd with hd | hd
    · exact Nat.lt_of_lt_of_le (h.put d hd p hp) hM
    · obtain rfl := List.mem_singleton.1 hd; exact hput p hp
  · rw [h1] at hf
    rcases List.mem_append.1 hf with hf | hf
    · exact h.files f hf
    · exact hfs f hf
theorem Inv.create {D : Disk} (h : Inv D) {n : Name} (hg : good n = true) : Inv (Disk.doCreate n D) := by
  have hN : (Disk.doCreate n D).files.length = D.files.length + 1 := by simp [Disk.doCreate]
  refine h.change ⟨none, some (n, D.files.length)⟩ (fs := [FileS.new]) rfl rfl rfl rfl (fun f hf => by obtain rfl := List.mem_singleton.1 hf; exact FOK.new) ?_ (fun n hn => by cases hn) (fun p hp => by cases hp; omega)
  rw [hN]
  refine (h.now.more (Nat.le_succ _)).put hg (by omega) (fun hm => ?_)
  obtain ⟨p, hp, he⟩ := List.mem_map.1 hm
  have := (h.now.erase n).lt p hp
  omega
theorem Inv.syncNames {D : Disk} (h : Inv D) : Inv D.doSyncNames := by
  unfold Disk.doSyncNames
  have hl : ∀ k, Disk.left { D with sure := D.left D.changes.length, changes := [] } k = D.now := by
    intro k; unfold Disk.left; simp only [List.take_nil, List.foldl_nil]; exact h.left
  refine ⟨hl _, fun k hk => ?_, fun c hc => (by cases hc), fun c hc => (by cases hc), h.files⟩
  rw [hl]; exact h.now
theorem Inv.onFile {D : Disk} (h : Inv D) {n : Name} {g : FileS → FileS} (hg : ∀ i f, find D.now n = some i → D.files[i]? = some f → FOK f → FOK (g f)) : Inv (Disk.onFile n g D) := by
  unfold Disk.onFile
  split
  · rename_i i hi
    unfold Disk.modify
    have hl : ∀ k, Disk.left { D with files := D.files.modify i g } k = D.left k := fun _ => rfl
    have hlen : (D.files.modify i g).length = D.files.length := by simp
    refine ⟨h.left, fun k hk => ?_, h.del, fun c hc p hp => ?_, fun f hf => ?_⟩
    · rw [hl]; show Ns (D.files.modify i g).length _; rw [hlen]; exact h.each k hk
    · show p.2 < (D.files.modify i g).length; rw [hlen]; exact h.put c hc p hp
    · obtain ⟨j, hj, rfl⟩ := List.getElem_of_mem hf
      have hj' : j < D.files.length := by rw [← hlen]; exact hj
      have e : (D.files.modify i g)[j] = if i = j then g D.files[j] else D.files[j] := List.getElem_modify ..
      show FOK (D.files.modify i g)[j]
      rw [e]
      split
      · rename_i he
        subst he
        exact hg i _ hi (List.getElem?_eq_getElem hj') (h.files _ (List.getElem_mem _))
      · exact h.files _ (List.getElem_mem _)
  · exact h
/-- Whatever befalls an operation. -/
theorem Inv.run {D : Disk} (h : Inv D) {ref : Err} {act : Disk → Disk} {wt : Bool} {part : Option (Int → Disk → Disk)} (ha : ref = 0 → ∀ D1, D1 = D.tick ∨ D1 = D.tick.dark → Inv (act D1)) (hp : ref = 0 → ∀ p n, part = some p → Inv (p n D.tick)) : Inv (D.run ref act wt part).2 := by
  unfold Disk.run
  split
  · exact h
  · split
    · show Inv (if ref = 0 ∧ wt = true then act D.tick.dark else D.tick.dark)
      split
      · rename_i hr; exact ha hr.1 _ (.inr rfl)
      · exact h.tick.dark
    · rename_i n _
      show Inv (failTo ref n part D.tick)
      unfold failTo
      split
      · split
        · rename_i p hr; exact hp hr p n rfl
        · exact h.tick
      · exact h.tick
    · split
      · rename_i hr; exact ha hr _ (.inl rfl)
      · exact h.tick
theorem Inv.tickDark {D D1 : Disk} (h : Inv D) (hD : D1 = D.tick ∨ D1 = D.tick.dark) : Inv D1 ∧ D1.now = D.now ∧ D1.files = D.files := by
  rcases hD with rfl | rfl
  · exact ⟨h.tick, rfl, rfl⟩
  · exact ⟨h.tick.dark, rfl, rfl⟩
theorem Inv.opCreate {D : Disk} (h : Inv D) (n : Name) : Inv (D.create n).2 := by
  refine h.run (fun hr D1 hD => ?_) (fun _ p n hp => by cases hp)
  refine (h.tickDark hD).1.create ?_
  unfold Disk.refuseCreate at hr
  cases hg : good n with
  | true => rfl
  | false => rw [if_pos hg] at hr; cases hr
theorem Inv.opAppend {D : Disk} (h : Inv D) (n : Name) (data : List Int) (hd : ∀ x, x ∈ data → 0 ≤ x ∧ x < 256) : Inv (D.append n data).2 := by
  refine h.run (fun hr D1 hD => (h.tickDark hD).1.onFile fun i f _ _ hf => hf.add data hd) (fun hr p m hp => ?_)
  cases hp
  exact h.tick.onFile fun i f _ _ hf => hf.add _ fun x hx => hd x (List.mem_of_mem_take hx)
theorem Inv.opSync {D : Disk} (h : Inv D) (n : Name) : Inv (D.sync n).2 :=
  h.run (fun hr D1 hD => (h.tickDark hD).1.onFile fun i f _ _ hf => hf.sync) (fun _ p n hp => by cases hp)
theorem Inv.opSyncNames {D : Disk} (h : Inv D) : Inv D.syncNames.2 :=
  h.run (fun hr D1 hD => (h.tickDark hD).1.syncNames) (fun _ p n hp => by cases hp)
theorem Inv.arm {D : Disk} (h : Inv D) (fails : List (Int × Int)) (cut : Int) : Inv (D.arm fails cut) := by
  unfold Disk.arm
  split
  · exact h
  · exact h.congr rfl rfl rfl rfl
end Go.Proofs.YtkmmlfphcfcbgaaGreatDoor.Dm

/- The pure disk: what a loss of power leaves is an image; an image that is loaded lies as it is. -/
namespace Go.Proofs.YtkmmlfphcfcbgaaGreatDoor.Dm
set_option linter.unusedVariables false
theorem nameLe_trans (a b c : Name) (h : nameLe a b = true) (k : nameLe b c = true) : nameLe a c = true := by
  unfold nameLe at *; simp only [decide_eq_true_eq] at *; exact List.le_trans h k
theorem nameLe_total (a b : Name) : (nameLe a b || nameLe b a) = true := by
  unfold nameLe
  rcases List.le_total a.data.toList b.data.toList with h | h <;> simp [h]
theorem name_ext {a b : Name} (h : a.data.toList = b.data.toList) : a = b := ByteArray.ext (Array.toList_inj.1 h)
theorem nameLe_antisymm {a b : Name} (h : nameLe a b = true) (k : nameLe b a = true) : a = b := by
  unfold nameLe at *; simp only [decide_eq_true_eq] at *; exact name_ext (List.le_antisymm h k)
theorem inOrder_perm (l : List (Name × Nat)) : (inOrder l).Perm l := List.mergeSort_perm l _
theorem inOrder_sorted (l : List (Name × Nat)) : (inOrder l).Pairwise fun a b => nameLe a.1 b.1 = true :=
  List.pairwise_mergeSort (le := fun a b => nameLe a.1 b.1) (fun a b c => nameLe_trans a.1 b.1 c.1) (fun a b => nameLe_total a.1 b.1) l
/-- Whatever order a map tells its names in. -/
theorem inOrder_eq {l l' : List (Name × Nat)} (hp : l'.Perm l) (h : (l.map (·.1)).Nodup) : inOrder l' = inOrder l := by
  have hk : ∀ p q : Name × Nat, p ∈ inOrder l' → q ∈ inOrder l → nameLe p.1 q.1 = true → nameLe q.1 p.1 = true → p = q := by
    intro p q hp1 hq1 h1 h2
    have e := nameLe_antisymm h1 h2
    have m1 : p ∈ l := (hp.mem_iff).1 ((inOrder_perm l').mem_iff.1 hp1)
    have m2 : q ∈ l := (inOrder_perm l).mem_iff.1 hq1
    have f1 := (find_iff h p.1 p.2).2 m1
    have f2 := (find_iff h q.1 q.2).2 m2
    rw [e, f2] at f1
    exact Prod.ext e (Option.some.inj f1).symm
  exact List.Perm.eq_of_pairwise (le := fun a b : Name × Nat => nameLe a.1 b.1 = true) hk (inOrder_sorted l') (inOrder_sorted l) (((inOrder_perm l').trans hp).trans (inOrder_perm l).symm)
theorem byBirth_perm (l : List (Name × Nat)) : (byBirth l).Perm l := List.mergeSort_perm l _
theorem numbers_pairwise (b : Nat → Bool) (m : Nat) : (numbers b m).Pairwise (· < ·) := by
  unfold numbers
  rw [List.pairwise_map]
  exact (List.pairwise_lt_range.filter _).imp fun h => by omega
theorem numbers_mem {b : Nat → Bool} {m : Nat} {k : Int} : k ∈ numbers b m ↔ 0 ≤ k ∧ k < m ∧ b k.toNat = true := by
  unfold numbers
  simp only [List.mem_map, List.mem_filter, List.mem_range]
  constructor
  · rintro ⟨j, ⟨h1, h2⟩, rfl⟩; exact ⟨by omega, by omega, by simpa using h2⟩
  · rintro ⟨h1, h2, h3⟩; exact ⟨k.toNat, ⟨by omega, h3⟩, by omega⟩
/-- The fates of the files, told apart. -/
theorem sidesBy_of {D : Disk} {fs : List Int} : ∀ (l : List (Name × Nat)) (c : Nat), (l.map (·.1)).Nodup → ∀ p, p ∈ l →
    ∃ c', c ≤ c' ∧ c' + (waitList (D.file p.2)).length ≤ c + (l.map fun q => (waitList (D.file q.2)).length).sum ∧ sideOf (sidesBy D fs l c) p.1 = (D.file p.2).fated (fatesFrom fs c' (waitList (D.file p.2)).length)
  | [], c, _, p, hp => by cases hp
  | q :: l, c, hn, p, hp => by
    simp only [List.map_cons, List.nodup_cons] at hn
    simp only [List.map_cons, List.sum_cons]
    rcases List.mem_cons.1 hp with h1 | h1
    · subst h1
      exact ⟨c, Nat.le_refl _, by omega, by simp [sidesBy, sideOf]⟩
    · have hne : q.1 ≠ p.1 := fun e => hn.1 (by rw [e]; exact List.mem_map_of_mem h1)
      obtain ⟨c', h2, h3, h4⟩ := sidesBy_of (D := D) (fs := fs) l (c + (waitList (D.file q.2)).length) hn.2 p h1
      refine ⟨c', by omega, by omega, ?_⟩
      rw [← h4]
      simp [sidesBy, sideOf, hne]
theorem Inv.leftNs {D : Disk} (h : Inv D) (k : Nat) : Ns D.files.length (D.left k) := by
  rcases Nat.lt_or_ge D.changes.length k with hk | hk
  · have : D.left k = D.left D.changes.length := by unfold Disk.left; rw [List.take_of_length_le (by omega), List.take_of_length_le (Nat.le_refl _)]
    rw [this]; exact h.each _ (Nat.le_refl _)
  · exact h.each _ hk
theorem Inv.fileOk {D : Disk} (h : Inv D) (i : Nat) : FOK (D.file i) := by
  unfold Disk.file
  cases hf : D.files[i]? with
  | none => exact FOK.new
  | some f => exact h.files f (List.mem_of_getElem? hf)
theorem range_self (l : List Int) : (List.range l.length).map (fun i => l.getD i 0) = l :=
  (eq_range rfl fun i hi => by rw [List.getD_eq_getElem?_getD, List.getElem?_eq_getElem hi]; rfl).symm
/-- What fates leave is fit for an image. -/
structure SOK (s : Side) : Prop where
  bad : ∀ k, s.bad k = true → k < sectors s.data.length
  zero : ∀ i, s.bad (i / 512) = true → s.data.getD i 0 = 0
  bytes : ∀ x, x ∈ s.data → 0 ≤ x ∧ x < 256
theorem getD_bytes {l : List Int} (h : ∀ x, x ∈ l → 0 ≤ x ∧ x < 256) (i : Nat) : 0 ≤ l.getD i 0 ∧ l.getD i 0 < 256 := by
  rw [List.getD_eq_getElem?_getD]
  cases hc : l[i]? with
  | none => simp
  | some x => exact h x (List.mem_of_getElem? hc)
theorem fateOf_mem : ∀ (l : List (Nat × Int)) (j : Nat), fateOf l j ≠ 0 → (j, fateOf l j) ∈ l
  | [], j, h => absurd rfl h
  | p :: l, j, h => by
    unfold fateOf at h ⊢
    by_cases e : p.1 = j
    · rw [if_pos e] at h ⊢; rw [← e]; exact List.mem_cons_self
    · rw [if_neg e] at h ⊢; exact List.mem_cons_of_mem _ (fateOf_mem l j h)
theorem fated_ok {f : FileS} (h : FOK f) (fates : List Int) : SOK (f.fated fates) ∧ (f.fated fates).data.length ≤ f.seen.length := by
  obtain ⟨a1, a2⟩ := fated_eq f h.sub fates
  generalize hW : (waitList f).zip fates = W at *
  have hL := longTo_max (n := f.seen.length) W f.safe.length h.sub
  have hL2 := longTo_le f.seen.length W f.safe.length
  have hlen : (f.fated fates).data.length = longTo f.seen.length W f.safe.length := by rw [a1]; simp
  refine ⟨⟨fun k hk => ?_, fun i hi => ?_, fun x hx => ?_⟩, by omega⟩
  · rw [hlen, sectors_lt]
    rw [a2 k] at hk
    split at hk
    · rename_i h0
      have hm := fateOf_mem W k h0
      have h1 := longTo_mem (n := f.seen.length) W f.safe.length _ hm h0
      have h2 : k < sectors f.seen.length := by
        rw [← hW] at hm
        exact (waitList_mem.1 (zip_mem hm)).1
      rw [sectors_lt] at h2
      simp only at h1
      omega
    · have := h.bsafe k hk; rw [sectors_lt] at this; omega
  · rw [a1, List.getD_eq_getElem?_getD, List.getElem?_map]
    rcases Nat.lt_or_ge i (longTo f.seen.length W f.safe.length) with hlt | hge
    · rw [List.getElem?_range hlt]
      show byteOf f.seen f.safe (fateOf W) i = 0
      rw [a2] at hi
      unfold byteOf
      by_cases h0 : fateOf W (i / 512) = 0
      · rw [if_pos h0]
        rw [if_neg (by simpa using h0)] at hi
        exact h.zsafe i hi
      · rw [if_neg h0]
        rw [if_pos h0] at hi
        rw [if_neg (by simpa using hi)]
    · rw [List.getElem?_eq_none (by simpa using hge)]; rfl
  · rw [a1] at hx
    obtain ⟨i, _, rfl⟩ := List.mem_map.1 hx
    unfold byteOf
    split
    · exact getD_bytes h.byteSafe i
    · split
      · exact getD_bytes h.byteSeen i
      · omega
end Go.Proofs.YtkmmlfphcfcbgaaGreatDoor.Dm

/- The pure disk: what an image loads to. -/
namespace Go.Proofs.YtkmmlfphcfcbgaaGreatDoor.Dm
set_option linter.unusedVariables false
end Go.Proofs.YtkmmlfphcfcbgaaGreatDoor.Dm

/- Records in blocks of a sector each, as plain lists (no program in sight): a block, what is read off it, a file's good blocks. -/
namespace Go.Proofs.YtkmmlfphcfcbgaaGreatDoor.Sg
set_option linter.unusedVariables false
abbrev Bytes := List Int
/-- The lowest n bytes of x, the lowest first. -/
def le : Nat → Nat → Bytes
  | 0, _ => []
  | n + 1, x => ((x % 256 : Nat) : Int) :: le n (x / 256)
/-- The number of such bytes. -/
def ofLe : Bytes → Nat
  | [] => 0
  | b :: r => b.toNat + 256 * ofLe r
theorem le_length : ∀ n x, (le n x).length = n
  | 0, _ => rfl
  | n + 1, x => by simp [le, le_length n]
theorem ofLe_le : ∀ n x, x < 256 ^ n → ofLe (le n x) = x
  | 0, x, h => by simp at h; simp [le, ofLe, h]
  | n + 1, x, h => by
    have h1 : x / 256 < 256 ^ n := by
      rw [Nat.pow_succ, Nat.mul_comm] at h
      exact Nat.div_lt_of_lt_mul h
    simp only [le, ofLe, ofLe_le n _ h1, Int.toNat_natCast]
    omega
theorem le_byte : ∀ n x b, b ∈ le n x → 0 ≤ b ∧ b < 256
  | 0, _, _, h => by cases h
  | n + 1, x, b, h => by
    rcases List.mem_cons.1 h with rfl | h
    · omega
    · exact le_byte n _ b h
def zeros (n : Nat) : Bytes := List.replicate n 0
def magic : Bytes := [84, 66, 48, 49]
/-- Records, each with its length ahead of it. -/
def body (rs : List Bytes) : Bytes := rs.flatMap fun r => le 2 r.length ++ r
/-- How much of a block's room records take. -/
def room (rs : List Bytes) : Nat := (body rs).length
theorem body_nil : body [] = [] := rfl
theorem body_cons (r : Bytes) (rs : List Bytes) : body (r :: rs) = le 2 r.length ++ r ++ body rs := by simp [body]
theorem room_nil : room [] = 0 := rfl
theorem room_cons (r : Bytes) (rs : List Bytes) : room (r :: rs) = 2 + r.length + room rs := by simp [room, body_cons, le_length]; omega
/-- A block, the sum's place filled with s. -/
def fill (first : Nat) (rs : List Bytes) (s : Nat) : Bytes := magic ++ (le 8 first ++ (le 2 rs.length ++ (le 4 s ++ (body rs ++ zeros (494 - room rs)))))
theorem fill_length {first : Nat} {rs : List Bytes} {s : Nat} (h : room rs ≤ 494) : (fill first rs s).length = 512 := by
  have : (body rs).length = room rs := rfl
  simp [fill, magic, le_length, zeros, this]; omega
/-- A block's bytes with zeros in the place of the sum. -/
def unsummed (b : Bytes) : Bytes := b.take 14 ++ zeros 4 ++ b.drop 18
theorem fill_take14 (first : Nat) (rs : List Bytes) (s : Nat) : (fill first rs s).take 14 = magic ++ (le 8 first ++ le 2 rs.length) := by
  have e : fill first rs s = (magic ++ (le 8 first ++ le 2 rs.length)) ++ (le 4 s ++ (body rs ++ zeros (494 - room rs))) := by simp [fill]
  rw [e, List.take_left' (by simp [magic, le_length])]
theorem fill_drop18 (first : Nat) (rs : List Bytes) (s : Nat) : (fill first rs s).drop 18 = body rs ++ zeros (494 - room rs) := by
  have e : fill first rs s = (magic ++ (le 8 first ++ (le 2 rs.length ++ le 4 s))) ++ (body rs ++ zeros (494 - room rs)) := by simp [fill]
  rw [e, List.drop_left' (by simp [magic, le_length])]
theorem unsummed_fill (first : Nat) (rs : List Bytes) (s : Nat) : unsummed (fill first rs s) = fill first rs 0 := by
  unfold unsummed
  rw [fill_take14, fill_drop18]
  have : le 4 0 = zeros 4 := by decide
  simp [fill, this]
/-- Whether so many records from first on have numbers. -/
def numbers (first n : Nat) : Prop := 1 ≤ first ∧ 1 ≤ n ∧ first + n ≤ 4611686018427387905
instance (first n : Nat) : Decidable (numbers first n) := by unfold numbers; exact inferInstance
/-- n records off the front, and what is left. -/
def takeRecs : Nat → Bytes → Option (List Bytes × Bytes)
  | 0, b => some ([], b)
  | n + 1, b =>
    if b.length < 2 then none else
    if (b.drop 2).length < ofLe (b.take 2) ∨ 200 < ofLe (b.take 2) then none else
    match takeRecs n ((b.drop 2).drop (ofLe (b.take 2))) with
    | some (rs, rest) => some ((b.drop 2).take (ofLe (b.take 2)) :: rs, rest)
    | none => none
theorem takeRecs_body : ∀ (rs : List Bytes) (t : Bytes), (∀ r, r ∈ rs → r.length ≤ 200) → takeRecs rs.length (body rs ++ t) = some (rs, t)
  | [], t, _ => rfl
  | r :: rs, t, h => by
    have hr := h r List.mem_cons_self
    have e : body (r :: rs) ++ t = le 2 r.length ++ (r ++ (body rs ++ t)) := by simp [body_cons]
    have e1 : (le 2 r.length ++ (r ++ (body rs ++ t))).take 2 = le 2 r.length := List.take_left' (le_length _ _)
    have e2 : (le 2 r.length ++ (r ++ (body rs ++ t))).drop 2 = r ++ (body rs ++ t) := List.drop_left' (le_length _ _)
    have e3 : ofLe (le 2 r.length) = r.length := ofLe_le 2 _ (by omega)
    rw [e, List.length_cons]
    unfold takeRecs
    rw [e1, e2, e3, if_neg (by simp [le_length]), if_neg (by simp; omega), List.drop_left, List.take_left, takeRecs_body rs t (fun q hq => h q (List.mem_cons_of_mem _ hq))]
section
variable (sm : Bytes → Nat)
/-- One block. -/
def blk (first : Nat) (rs : List Bytes) : Bytes := fill first rs (sm (fill first rs 0))
/-- What a block holds: its first record's number and its records. -/
def decode (b : Bytes) : Option (Nat × List Bytes) :=
  if b.length = 512 ∧ b.take 4 = magic ∧ ofLe ((b.drop 14).take 4) = sm (unsummed b) ∧ numbers (ofLe ((b.drop 4).take 8)) (ofLe ((b.drop 12).take 2)) then
    match takeRecs (ofLe ((b.drop 12).take 2)) (b.drop 18) with
    | some (rs, rest) => if rest.all (fun x => decide (x = 0)) then some (ofLe ((b.drop 4).take 8), rs) else none
    | none => none
  else none
theorem fill_parts (first : Nat) (rs : List Bytes) (s : Nat) : (fill first rs s).take 4 = magic ∧ ((fill first rs s).drop 4).take 8 = le 8 first ∧ ((fill first rs s).drop 12).take 2 = le 2 rs.length ∧ ((fill first rs s).drop 14).take 4 = le 4 s := by
  have e4 : (fill first rs s).drop 4 = le 8 first ++ (le 2 rs.length ++ (le 4 s ++ (body rs ++ zeros (494 - room rs)))) := by
    unfold fill; exact List.drop_left' rfl
  have e12 : (fill first rs s).drop 12 = le 2 rs.length ++ (le 4 s ++ (body rs ++ zeros (494 - room rs))) := by
    have : fill first rs s = (magic ++ le 8 first) ++ (le 2 rs.length ++ (le 4 s ++ (body rs ++ zeros (494 - room rs)))) := by simp [fill]
    rw [this]; exact List.drop_left' (by simp [magic, le_length])
  have e14 : (fill first rs s).drop 14 = le 4 s ++ (body rs ++ zeros (494 - room rs)) := by
    have : fill first rs s = (magic ++ (le 8 first ++ le 2 rs.length)) ++ (le 4 s ++ (body rs ++ zeros (494 - room rs))) := by simp [fill]
    rw [this]; exact List.drop_left' (by simp [magic, le_length])
  refine ⟨?_, ?_, ?_, ?_⟩
  · unfold fill; exact List.take_left' rfl
  · rw [e4]; exact List.take_left' (le_length _ _)
  · rw [e12]; exact List.take_left' (le_length _ _)
  · rw [e14]; exact List.take_left' (le_length _ _)
theorem room_count : ∀ rs : List Bytes, 2 * rs.length ≤ room rs
  | [] => Nat.le_refl _
  | r :: rs => by have := room_count rs; rw [room_cons, List.length_cons]; omega
/-- What a block was made of is read off it. -/
theorem decode_blk (hsm : ∀ b, sm b < 4294967296) {first : Nat} {rs : List Bytes} (hn : numbers first rs.length) (hr : ∀ r, r ∈ rs → r.length ≤ 200) (hroom : room rs ≤ 494) : decode sm (blk sm first rs) = some (first, rs) := by
  obtain ⟨p1, p2, p3, p4⟩ := fill_parts first rs (sm (fill first rs 0))
  have hc := room_count rs
  have hf : ofLe (le 8 first) = first := ofLe_le 8 _ (by have := hn.2.2; have := hn.2.1; omega)
  have hl : ofLe (le 2 rs.length) = rs.length := ofLe_le 2 _ (by omega)
  have hs : ofLe (le 4 (sm (fill first rs 0))) = sm (fill first rs 0) := ofLe_le 4 _ (by have := hsm (fill first rs 0); omega)
  unfold decode blk
  rw [p1, p2, p3, p4, hf, hl, hs, unsummed_fill, fill_drop18, if_pos ⟨fill_length hroom, rfl, rfl, hn⟩, takeRecs_body rs _ hr]
  simp [zeros]
/-- The good blocks of the sectors from number i on: their records, and how many they are. -/
def scan (data : Bytes) (bad : List Int) : Nat → Nat → Nat → List Bytes × Nat
  | 0, _, _ => ([], 0)
  | fuel + 1, i, first =>
    if (i + 1) * 512 ≤ data.length ∧ ¬ (i : Int) ∈ bad then
      match decode sm ((data.drop (i * 512)).take 512) with
      | some (a, rs) => if a = first then (rs ++ (scan data bad fuel (i + 1) (first + rs.length)).1, (scan data bad fuel (i + 1) (first + rs.length)).2 + 1) else ([], 0)
      | none => ([], 0)
    else ([], 0)
/-- How many records fit one block, from the front. -/
def fits : List Bytes → Nat → Nat
  | [], _ => 0
  | r :: rs, used => if used + 2 + r.length ≤ 494 then fits rs (used + 2 + r.length) + 1 else 0
theorem fits_le : ∀ (rs : List Bytes) (u : Nat), fits rs u ≤ rs.length
  | [], _ => Nat.le_refl _
  | r :: rs, u => by
    unfold fits
    split
    · have := fits_le rs (u + 2 + r.length); rw [List.length_cons]; omega
    · exact Nat.zero_le _
theorem fits_room : ∀ (rs : List Bytes) (u : Nat), u ≤ 494 → u + room (rs.take (fits rs u)) ≤ 494
  | [], u, h => by simpa [fits, room_nil] using h
  | r :: rs, u, h => by
    unfold fits
    split
    · rename_i h1
      rw [List.take_succ_cons, room_cons]
      have := fits_room rs (u + 2 + r.length) h1
      omega
    · simpa [room_nil] using h
theorem fits_pos {rs : List Bytes} (h : rs ≠ []) (hr : ∀ r, r ∈ rs → r.length ≤ 200) : 1 ≤ fits rs 0 := by
  cases rs with
  | nil => exact absurd rfl h
  | cons r rs =>
    unfold fits
    have := hr r List.mem_cons_self
    rw [if_pos (by omega)]
    omega
/-- Blocks one behind the other, as few as can be (fuel: how many there may be at most). -/
def pack : Nat → Nat → List Bytes → Bytes
  | 0, _, _ => []
  | fuel + 1, first, rs => if rs = [] then [] else blk sm first (rs.take (fits rs 0)) ++ pack fuel (first + fits rs 0) (rs.drop (fits rs 0))
theorem blk_length {first : Nat} {rs : List Bytes} (h : room rs ≤ 494) : (blk sm first rs).length = 512 := fill_length h
theorem numbers_take {first : Nat} {rs : List Bytes} {n : Nat} (h : numbers first rs.length) (h1 : 1 ≤ n) (h2 : n ≤ rs.length) : numbers first (rs.take n).length := by
  obtain ⟨a, b, c⟩ := h
  rw [List.length_take]
  exact ⟨a, by omega, by omega⟩
theorem numbers_drop {first : Nat} {rs : List Bytes} {n : Nat} (h : numbers first rs.length) (h2 : n < rs.length) : numbers (first + n) (rs.drop n).length := by
  obtain ⟨a, b, c⟩ := h
  rw [List.length_drop]
  exact ⟨by omega, by omega, by omega⟩
/-- How many blocks. -/
def blocks : Nat → List Bytes → Nat
  | 0, _ => 0
  | fuel + 1, rs => if rs = [] then 0 else blocks fuel (rs.drop (fits rs 0)) + 1
theorem pack_length (fuel : Nat) : ∀ (first : Nat) (rs : List Bytes), (pack sm fuel first rs).length = 512 * blocks fuel rs := by
  induction fuel with
  | zero => intro first rs; rfl
  | succ fuel ih =>
    intro first rs
    unfold pack blocks
    split
    · rfl
    · have h := fits_room rs 0 (by omega)
      rw [List.length_append, ih, blk_length sm (by omega)]; omega
end
end Go.Proofs.YtkmmlfphcfcbgaaGreatDoor.Sg

/- What is found behind a loss of power: the records of the blocks at the front. -/
namespace Go.Proofs.YtkmmlfphcfcbgaaGreatDoor.Sg
set_option linter.unusedVariables false
section
variable (sm : Bytes → Nat)
/-- The number of the first record of block i. -/
def numAt (first : Nat) (gs : List (List Bytes)) (i : Nat) : Nat := first + (gs.take i).flatten.length
/-- Blocks one behind the other, by their records. -/
def lay : Nat → List (List Bytes) → Bytes
  | _, [] => []
  | first, g :: gs => blk sm first g ++ lay (first + g.length) gs
theorem lay_append : ∀ (a b : List (List Bytes)) (first : Nat), lay sm first (a ++ b) = lay sm first a ++ lay sm (first + a.flatten.length) b
  | [], b, first => by simp [lay]
  | g :: a, b, first => by
    rw [List.cons_append, lay, lay, lay_append a b, List.append_assoc]
    simp [Nat.add_assoc]
/-- The records block by block. -/
def cutRecs : Nat → List Bytes → List (List Bytes)
  | 0, _ => []
  | fuel + 1, rs => if rs = [] then [] else rs.take (fits rs 0) :: cutRecs fuel (rs.drop (fits rs 0))
theorem pack_lay : ∀ (fuel first : Nat) (rs : List Bytes), pack sm fuel first rs = lay sm first (cutRecs fuel rs)
  | 0, _, _ => rfl
  | fuel + 1, first, rs => by
    unfold pack cutRecs
    split
    · rfl
    · rw [lay, pack_lay fuel, List.length_take, Nat.min_eq_left (fits_le rs 0)]
/-- Records that one block holds. -/
structure GoodG (g : List Bytes) : Prop where
  ne : g ≠ []
  len : ∀ r, r ∈ g → r.length ≤ 200
  room : room g ≤ 494
theorem cutRecs_good : ∀ (fuel : Nat) (rs : List Bytes), (∀ r, r ∈ rs → r.length ≤ 200) → ∀ g, g ∈ cutRecs fuel rs → GoodG g
  | 0, _, _, g, h => by cases h
  | fuel + 1, rs, hr, g, h => by
    unfold cutRecs at h
    split at h
    · cases h
    · rename_i h0
      rcases List.mem_cons.1 h with rfl | h
      · have h1 := fits_pos h0 hr
        have h2 := fits_le rs 0
        exact ⟨fun e => by have := congrArg List.length e; rw [List.length_take, Nat.min_eq_left h2, List.length_nil] at this; omega, fun r hm => hr r (List.mem_of_mem_take hm), by have := fits_room rs 0 (by omega); omega⟩
      · exact cutRecs_good fuel _ (fun r hm => hr r (List.mem_of_mem_drop hm)) g h
theorem cutRecs_flatten : ∀ (fuel : Nat) (rs : List Bytes), rs.length ≤ fuel → (∀ r, r ∈ rs → r.length ≤ 200) → (cutRecs fuel rs).flatten = rs
  | 0, rs, h, _ => by
    have : rs = [] := List.eq_nil_of_length_eq_zero (by omega)
    rw [this]; rfl
  | fuel + 1, rs, h, hr => by
    unfold cutRecs
    split
    · rename_i h0; rw [h0]; rfl
    · rename_i h0
      have h1 := fits_pos h0 hr
      have h2 := fits_le rs 0
      rw [List.flatten_cons, cutRecs_flatten fuel _ (by rw [List.length_drop]; omega) (fun r hm => hr r (List.mem_of_mem_drop hm)), List.take_append_drop]
theorem lay_length : ∀ (gs : List (List Bytes)) (first : Nat), (∀ g, g ∈ gs → GoodG g) → (lay sm first gs).length = 512 * gs.length
  | [], _, _ => rfl
  | g :: gs, first, h => by
    rw [lay, List.length_append, blk_length sm (h g List.mem_cons_self).room, lay_length gs _ (fun x hx => h x (List.mem_cons_of_mem _ hx)), List.length_cons]; omega
end
end Go.Proofs.YtkmmlfphcfcbgaaGreatDoor.Sg

/- A file of blocks of which sectors are spoilt: what a scan finds of it. -/
namespace Go.Proofs.YtkmmlfphcfcbgaaGreatDoor.Sg
set_option linter.unusedVariables false
section
variable (sm : Bytes → Nat)
theorem flatten_take_le : ∀ (gs : List (List Bytes)) (i : Nat) (g : List Bytes), gs[i]? = some g → (gs.take i).flatten.length + g.length ≤ gs.flatten.length
  | [], _, _, h => by simp at h
  | a :: gs, 0, g, h => by
    have : a = g := by simpa using h
    subst this
    simp
  | a :: gs, i + 1, g, h => by
    have := flatten_take_le gs i g (by simpa using h)
    rw [List.take_succ_cons, List.flatten_cons, List.flatten_cons, List.length_append, List.length_append]
    omega
theorem numbers_at {first : Nat} {gs : List (List Bytes)} {i : Nat} {g : List Bytes} (hn : numbers first gs.flatten.length) (h : gs[i]? = some g) (hg : GoodG g) : numbers (numAt first gs i) g.length := by
  have h1 := flatten_take_le gs i g h
  have h2 : 1 ≤ g.length := by
    cases g with
    | nil => exact absurd rfl hg.ne
    | cons a g => rw [List.length_cons]; omega
  obtain ⟨a, b, c⟩ := hn
  unfold numAt
  exact ⟨by omega, h2, by omega⟩
/-- Records packed behind others are blocks behind others. -/
theorem cutRecs_count : ∀ (fuel : Nat) (rs : List Bytes), (cutRecs fuel rs).length = blocks fuel rs
  | 0, _ => rfl
  | fuel + 1, rs => by
    unfold cutRecs blocks
    split
    · rfl
    · rw [List.length_cons, cutRecs_count fuel]
end
end Go.Proofs.YtkmmlfphcfcbgaaGreatDoor.Sg

/- What a loss of power leaves of a file of whole sectors, as Sp4 says it. -/
namespace Go.Proofs.YtkmmlfphcfcbgaaGreatDoor.Sg
open Go.Proofs.YtkmmlfphcfcbgaaGreatDoor.Dm
set_option linter.unusedVariables false
/-- A file of whole sectors, its front safe. -/
structure Half (f : FileS) (s : Nat) : Prop where
  front : ∃ t, f.seen = f.safe ++ t
  safe : f.safe.length = s * 512
  bad : ∀ k, f.badSafe k = false
  badS : ∀ k, f.badSeen k = false
  waits : ∀ k, f.waits k = true → s ≤ k
section
variable {f : FileS} {s : Nat} (H : Half f s) (fates : List Int)
include H
theorem half_le : f.safe.length ≤ f.seen.length := by
  obtain ⟨t, ht⟩ := H.front
  rw [ht, List.length_append]; omega
end
end Go.Proofs.YtkmmlfphcfcbgaaGreatDoor.Sg

/- How the file of a segment goes on: what is appended and made safe; what a loss of power leaves of it. -/
namespace Go.Proofs.YtkmmlfphcfcbgaaGreatDoor.Sg
open Go.Proofs.YtkmmlfphcfcbgaaGreatDoor.Dm
set_option linter.unusedVariables false
theorem add_seen (f : FileS) (data : List Int) : (FileS.add data f).seen = f.seen ++ data := by
  unfold FileS.add
  split
  · rename_i h; rw [h, List.append_nil]
  · rfl
theorem add_safe (f : FileS) (data : List Int) : (FileS.add data f).safe = f.safe := by
  unfold FileS.add
  split <;> rfl
theorem half_add {f : FileS} {s : Nat} (H : Half f s) (data : List Int) : Half (FileS.add data f) s := by
  obtain ⟨t, ht⟩ := H.front
  have hs := H.safe
  have hle := half_le H
  refine ⟨⟨t ++ data, by rw [add_seen, add_safe, ht, List.append_assoc]⟩, by rw [add_safe]; exact hs, fun k => ?_, fun k => ?_, fun k hk => ?_⟩
  · unfold FileS.add
    split
    · exact H.bad k
    · exact H.bad k
  · unfold FileS.add
    split
    · exact H.badS k
    · simp [H.badS k]
  · unfold FileS.add at hk
    split at hk
    · exact H.waits k hk
    · simp only [Bool.or_eq_true, Bool.and_eq_true, decide_eq_true_eq] at hk
      rcases hk with hk | ⟨hk, _⟩
      · exact H.waits k hk
      · omega
theorem half_sync {f : FileS} {s n : Nat} (H : Half f s) (hn : f.seen.length = n * 512) : Half (FileS.sync f) n :=
  ⟨⟨[], by simp [FileS.sync]⟩, hn, H.badS, H.badS, fun _ h => by cases h⟩
section
variable (sm : Bytes → Nat)
/-- One group more behind the others. -/
theorem lay_group {first : Nat} (gs : List (List Bytes)) (fuel : Nat) (rs : List Bytes) : lay sm first gs ++ pack sm fuel (first + gs.flatten.length) rs = lay sm first (gs ++ cutRecs fuel rs) := by
  rw [lay_append, pack_lay]
end
end Go.Proofs.YtkmmlfphcfcbgaaGreatDoor.Sg

/- The sum of bytes, by halves of bytes, as plain numbers. -/
namespace Go.Proofs.YtkmmlfphcfcbgaaGreatDoor.Sg
set_option linter.unusedVariables false
/-- Four steps of each number of four bits. -/
def halfs : List Nat := [0x00000000, 0x105ec76f, 0x20bd8ede, 0x30e349b1, 0x417b1dbc, 0x5125dad3, 0x61c69362, 0x7198540d, 0x82f63b78, 0x92a8fc17, 0xa24bb5a6, 0xb21572c9, 0xc38d26c4, 0xd3d3e1ab, 0xe330a81a, 0xf36e6f75]
theorem halfs_lt : ∀ x, halfs.getD x 0 < 4294967296 := by
  intro x
  rcases Nat.lt_or_ge x 16 with h | h
  · have : ∀ x, x < 16 → halfs.getD x 0 < 4294967296 := by decide
    exact this x h
  · rw [List.getD_eq_getElem?_getD, List.getElem?_eq_none (by simpa [halfs] using h)]; decide
/-- Four steps. -/
def step4 (x : Nat) : Nat := x / 16 ^^^ halfs.getD (x % 16) 0
theorem step4_lt {x : Nat} (h : x < 4294967296) : step4 x < 4294967296 := by
  unfold step4
  exact Nat.xor_lt_two_pow (n := 32) (by omega) (halfs_lt _)
/-- One byte more. -/
def step8 (x : Nat) (c : Int) : Nat := step4 (step4 (x ^^^ c.toNat))
theorem step8_lt {x : Nat} {c : Int} (h : x < 4294967296) (hc : c < 256) : step8 x c < 4294967296 :=
  step4_lt (step4_lt (Nat.xor_lt_two_pow (n := 32) h (by omega)))
theorem steps_lt : ∀ (b : Bytes) (x : Nat), x < 4294967296 → (∀ c, c ∈ b → 0 ≤ c ∧ c < 256) → b.foldl step8 x < 4294967296
  | [], x, h, _ => h
  | c :: b, x, h, hb => steps_lt b _ (step8_lt h (hb c List.mem_cons_self).2) fun d hd => hb d (List.mem_cons_of_mem _ hd)
/-- The sum of what s is the sum of, with b behind it. -/
def crcAdd (s : Nat) (b : Bytes) : Nat := 4294967295 - b.foldl step8 (4294967295 - s)
def crc (b : Bytes) : Nat := crcAdd 0 b
theorem crcAdd_lt (s : Nat) (b : Bytes) : crcAdd s b < 4294967296 := by unfold crcAdd; omega
theorem crc_lt (b : Bytes) : crc b < 4294967296 := crcAdd_lt 0 b
theorem crcAdd_append (s : Nat) {a : Bytes} (b : Bytes) (ha : ∀ c, c ∈ a → 0 ≤ c ∧ c < 256) : crcAdd (crcAdd s a) b = crcAdd s (a ++ b) := by
  unfold crcAdd
  have := steps_lt a (4294967295 - s) (by omega) ha
  rw [List.foldl_append, show 4294967295 - (4294967295 - a.foldl step8 (4294967295 - s)) = a.foldl step8 (4294967295 - s) by omega]
/-- Pieces one behind the other. -/
def crcAll : Nat → List Bytes → Nat
  | s, [] => s
  | s, b :: r => crcAll (crcAdd s b) r
theorem crcAll_flatten : ∀ (l : List Bytes) (a : Bytes), (∀ c, c ∈ a → 0 ≤ c ∧ c < 256) → (∀ b, b ∈ l → ∀ c, c ∈ b → 0 ≤ c ∧ c < 256) → crcAll (crc a) l = crc (a ++ l.flatten)
  | [], a, _, _ => by simp [crcAll]
  | b :: l, a, ha, hl => by
    have hb := hl b List.mem_cons_self
    rw [crcAll, crc, crcAdd_append 0 b ha]
    have := crcAll_flatten l (a ++ b) (fun c hc => (List.mem_append.1 hc).elim (ha c) (hb c)) fun d hd => hl d (List.mem_cons_of_mem _ hd)
    unfold crc at this
    rw [this, List.flatten_cons, List.append_assoc]; rfl
/-- The three pieces of a block's sum. -/
theorem crcAll_block {b : Bytes} (hb : ∀ c, c ∈ b → 0 ≤ c ∧ c < 256) : crcAll 0 [b.take 14, zeros 4, b.drop 18] = crc (unsummed b) := by
  have hz : ∀ c, c ∈ zeros 4 → 0 ≤ c ∧ c < 256 := fun c hc => by
    have := (List.mem_replicate.1 hc).2
    omega
  have h1 : ∀ c, c ∈ b.take 14 → 0 ≤ c ∧ c < 256 := fun c hc => hb c (List.mem_of_mem_take hc)
  have h2 : ∀ c, c ∈ b.drop 18 → 0 ≤ c ∧ c < 256 := fun c hc => hb c (List.mem_of_mem_drop hc)
  have e : crcAll 0 [b.take 14, zeros 4, b.drop 18] = crcAll (crc (b.take 14)) [zeros 4, b.drop 18] := rfl
  rw [e, crcAll_flatten _ _ h1 fun d hd => by
    rcases List.mem_cons.1 hd with rfl | hd
    · exact hz
    · rcases List.mem_cons.1 hd with rfl | hd
      · exact h2
      · cases hd]
  unfold unsummed
  simp
end Go.Proofs.YtkmmlfphcfcbgaaGreatDoor.Sg

/- A scan of blocks with other bytes behind them. -/
namespace Go.Proofs.YtkmmlfphcfcbgaaGreatDoor.Sg
set_option linter.unusedVariables false
section
variable (sm : Bytes → Nat)
theorem scan_zero (data : Bytes) (bad : List Int) (fuel i first : Nat) (h : data.length < (i + 1) * 512) : scan sm data bad fuel i first = ([], 0) := by
  cases fuel with
  | zero => rfl
  | succ fuel =>
    unfold scan
    rw [if_neg (by omega)]
/-- One step of a scan. -/
def scanStep (data : Bytes) (bad : List Int) (i first : Nat) (next : List Bytes → List Bytes × Nat) : List Bytes × Nat :=
  if (i + 1) * 512 ≤ data.length ∧ ¬ (i : Int) ∈ bad then
    match decode sm ((data.drop (i * 512)).take 512) with
    | some p => if p.1 = first then next p.2 else ([], 0)
    | none => ([], 0)
  else ([], 0)
theorem scan_succ (data : Bytes) (bad : List Int) (fuel i first : Nat) : scan sm data bad (fuel + 1) i first = scanStep sm data bad i first fun rs => (rs ++ (scan sm data bad fuel (i + 1) (first + rs.length)).1, (scan sm data bad fuel (i + 1) (first + rs.length)).2 + 1) := by
  rw [scan]
  unfold scanStep
  split
  · generalize decode sm ((data.drop (i * 512)).take 512) = q
    cases q with
    | none => rfl
    | some p => rfl
  · rfl
theorem shift_iff {a t : Bytes} {k : Nat} (ha : a.length = k * 512) (i : Nat) : (k + i + 1) * 512 ≤ (a ++ t).length ↔ (i + 1) * 512 ≤ t.length := by
  rw [List.length_append, ha]
  generalize List.length t = n
  omega
theorem scan_shift (a t : Bytes) (k : Nat) (ha : a.length = k * 512) (fuel : Nat) : ∀ (i first : Nat), scan sm (a ++ t) [] fuel (k + i) first = scan sm t [] fuel i first := by
  induction fuel with
  | zero => intro i first; rfl
  | succ fuel ih =>
    intro i first
    have e2 : (a ++ t).drop ((k + i) * 512) = t.drop (i * 512) := by
      rw [Nat.add_mul, ← List.drop_drop, List.drop_left' ha]
    rw [scan_succ, scan_succ]
    have e3 : (fun rs : List Bytes => (rs ++ (scan sm (a ++ t) [] fuel (k + i + 1) (first + rs.length)).1, (scan sm (a ++ t) [] fuel (k + i + 1) (first + rs.length)).2 + 1)) = fun rs => (rs ++ (scan sm t [] fuel (i + 1) (first + rs.length)).1, (scan sm t [] fuel (i + 1) (first + rs.length)).2 + 1) := by
      funext rs
      rw [Nat.add_assoc k i 1, ih (i + 1)]
    rw [e3]
    unfold scanStep
    rw [e2]
    simp only [shift_iff ha, List.not_mem_nil, not_false_eq_true, and_true]
/-- Blocks, then what stands behind them. -/
theorem scan_lay (hsm : ∀ b, sm b < 4294967296) : ∀ (gs : List (List Bytes)) (first : Nat) (t : Bytes) (f2 : Nat), (gs ≠ [] → numbers first gs.flatten.length) → (∀ g, g ∈ gs → GoodG g) →
    scan sm (lay sm first gs ++ t) [] (gs.length + f2) 0 first = (gs.flatten ++ (scan sm t [] f2 0 (first + gs.flatten.length)).1, gs.length + (scan sm t [] f2 0 (first + gs.flatten.length)).2)
  | [], first, t, f2, _, _ => by simp [lay]
  | g :: gs, first, t, f2, hn, hg => by
    have hG := hg g List.mem_cons_self
    have hb := blk_length sm (first := first) hG.room
    have hn1 : numbers first g.length := by
      have := numbers_at (i := 0) (hn (by simp)) (g := g) rfl hG
      unfold numAt at this
      simpa using this
    have hd := decode_blk sm hsm hn1 hG.len hG.room
    have hn2 : gs ≠ [] → numbers (first + g.length) gs.flatten.length := by
      intro h0
      obtain ⟨a, b, c⟩ := hn (by simp)
      rw [List.flatten_cons, List.length_append] at b c
      obtain ⟨x, r, rfl⟩ := List.exists_cons_of_ne_nil h0
      have hx := (hg x (List.mem_cons_of_mem _ List.mem_cons_self)).ne
      have : 1 ≤ x.length := List.length_pos_iff.2 hx
      rw [List.flatten_cons, List.length_append] at *
      exact ⟨by omega, by omega, by omega⟩
    have ih := scan_lay hsm gs (first + g.length) t f2 hn2 fun x hx => hg x (List.mem_cons_of_mem _ hx)
    have e : lay sm first (g :: gs) ++ t = blk sm first g ++ (lay sm (first + g.length) gs ++ t) := by rw [lay, List.append_assoc]
    rw [e, List.length_cons, show gs.length + 1 + f2 = (gs.length + f2) + 1 by omega]
    conv => lhs; unfold scan
    rw [if_pos ⟨by rw [List.length_append, hb]; omega, by simp⟩, Nat.zero_mul, List.drop_zero, List.take_left' hb, hd]
    simp only [if_true]
    have hs := scan_shift sm (blk sm first g) (lay sm (first + g.length) gs ++ t) 1 (by rw [hb]) (gs.length + f2) 0 (first + g.length)
    rw [Nat.add_zero] at hs
    rw [Nat.zero_add, hs, ih, List.flatten_cons, List.length_append, List.append_assoc, Nat.add_assoc first]
    refine Prod.ext rfl ?_
    simp only []
    omega
/-- So many sectors are there. -/
theorem scan_room (data : Bytes) (bad : List Int) (fuel : Nat) : ∀ (i first : Nat), i * 512 ≤ data.length → (i + (scan sm data bad fuel i first).2) * 512 ≤ data.length := by
  induction fuel with
  | zero => intro i first h; simpa [scan] using h
  | succ fuel ih =>
    intro i first h
    rw [scan_succ]
    unfold scanStep
    split
    · rename_i hc
      generalize decode sm ((data.drop (i * 512)).take 512) = q
      cases q with
      | none => exact h
      | some p =>
        simp only []
        split
        · have := ih (i + 1) (first + p.2.length) hc.1
          rw [Nat.add_assoc, Nat.add_comm 1] at this
          exact this
        · exact h
    · exact h
end
end Go.Proofs.YtkmmlfphcfcbgaaGreatDoor.Sg

/- A disk of one file, and a segment over it, as plain data. -/
namespace Go.Proofs.YtkmmlfphcfcbgaaGreatDoor.Dm
set_option linter.unusedVariables false
/-- A disk of one file, its name safe. -/
structure One (nm : Name) (f : FileS) (D : Disk) : Prop where
  files : D.files = [f]
  now : D.now = [(nm, 0)]
  sure : D.sure = [(nm, 0)]
  changes : D.changes = []
section
variable {nm : Name} {f : FileS} {D : Disk}
theorem One.congr {D' : Disk} (h : One nm f D) (h1 : D'.files = D.files) (h2 : D'.now = D.now) (h3 : D'.sure = D.sure) (h4 : D'.changes = D.changes) : One nm f D' :=
  ⟨h1.trans h.files, h2.trans h.now, h3.trans h.sure, h4.trans h.changes⟩
theorem One.tick (h : One nm f D) : One nm f D.tick := h.congr rfl rfl rfl rfl
theorem One.dark (h : One nm f D) : One nm f D.dark := h.congr rfl rfl rfl rfl
theorem One.arm (h : One nm f D) (fs : List (Int × Int)) (cut : Int) : One nm f (D.arm fs cut) := by
  unfold Disk.arm
  split
  · exact h
  · exact h.congr rfl rfl rfl rfl
theorem One.find (h : One nm f D) : find D.now nm = some 0 := by rw [h.now]; simp [Dm.find]
theorem One.gone (h : One nm f D) : D.gone nm = 0 := by unfold Disk.gone; rw [h.find]; rfl
theorem One.file (h : One nm f D) : D.file 0 = f := by unfold Disk.file; rw [h.files]; rfl
theorem One.onFile (h : One nm f D) (g : FileS → FileS) : One nm (g f) (Disk.onFile nm g D) := by
  unfold Disk.onFile
  rw [h.find]
  exact ⟨by show D.files.modify 0 g = _; rw [h.files]; rfl, h.now, h.sure, h.changes⟩
theorem One.read (h : One nm f D) (ho : D.off = false) : D.read nm = (0, f.seen, numbers f.badSeen (sectors f.seen.length)) := by
  unfold Disk.read
  rw [if_neg (by rw [ho]; simp), h.find]
  simp only [h.file]
theorem onFile_off (n : Name) (g : FileS → FileS) (D : Disk) : (Disk.onFile n g D).off = D.off ∧ (Disk.onFile n g D).count = D.count ∧ (Disk.onFile n g D).fails = D.fails ∧ (Disk.onFile n g D).cut = D.cut := by
  unfold Disk.onFile
  split <;> exact ⟨rfl, rfl, rfl, rfl⟩
/-- An append, whatever is armed. -/
theorem One.append (h : One nm f D) (data : List Int) : ∃ k, One nm (FileS.add (data.take k) f) (D.append nm data).2 ∧ ((D.append nm data).1 = 0 → data.take k = data ∧ (D.append nm data).2.off = false) ∧ ((D.append nm data).1 = 0 ∨ (D.append nm data).1 = 6 ∨ (D.append nm data).1 = 7) := by
  have hadd0 : FileS.add (data.take 0) f = f := by unfold FileS.add; simp
  unfold Disk.append Disk.run
  by_cases ho : D.off = true
  · rw [if_pos ho]
    exact ⟨0, by rw [hadd0]; exact h, fun e => (by cases e), Or.inr (Or.inr rfl)⟩
  · rw [if_neg ho]
    cases ha : D.tick.armed with
    | cut =>
      refine ⟨data.length, ?_, fun e => (by cases e), Or.inr (Or.inr rfl)⟩
      simp only [h.gone, true_and, if_true]
      rw [List.take_length]
      exact h.tick.dark.onFile _
    | fails n =>
      refine ⟨n.toNat, ?_, fun e => (by cases e), Or.inr (Or.inl rfl)⟩
      simp only [h.gone, failTo, if_true]
      exact h.tick.onFile _
    | goes =>
      refine ⟨data.length, ?_, fun _ => ⟨List.take_length, ?_⟩, Or.inl ?_⟩
      · simp only [h.gone, if_true]
        rw [List.take_length]
        exact h.tick.onFile _
      · simp only [h.gone, if_true]
        rw [(onFile_off _ _ _).1]
        cases hh : D.off with
        | true => exact absurd hh ho
        | false => exact hh
      · simp only [h.gone, if_true]
/-- A sync, whatever is armed. -/
theorem One.sync (h : One nm f D) : ((D.sync nm).1 = 0 ∧ One nm f.sync (D.sync nm).2 ∧ (D.sync nm).2.off = false) ∨ (((D.sync nm).1 = 6 ∨ (D.sync nm).1 = 7) ∧ One nm f (D.sync nm).2) := by
  unfold Disk.sync Disk.run
  by_cases ho : D.off = true
  · rw [if_pos ho]
    exact Or.inr ⟨Or.inr rfl, h⟩
  · rw [if_neg ho]
    cases ha : D.tick.armed with
    | cut =>
      refine Or.inr ⟨Or.inr rfl, ?_⟩
      simp only [Bool.false_eq_true, and_false, if_false]
      exact h.tick.dark
    | fails n => exact Or.inr ⟨Or.inl rfl, h.tick⟩
    | goes =>
      refine Or.inl ?_
      simp only [h.gone, if_true, true_and]
      refine ⟨h.tick.onFile _, ?_⟩
      rw [(onFile_off _ _ _).1]
      cases hh : D.off with
      | true => exact absurd hh ho
      | false => exact hh
theorem Quiet.onFile (hq : Quiet D) (n : Name) (g : FileS → FileS) : Quiet (Disk.onFile n g D) := by
  obtain ⟨h1, h2, h3, h4⟩ := onFile_off n g D
  exact ⟨h1.trans hq.off, h3.trans hq.fails, h4.trans hq.cut⟩
theorem Quiet.ticked (hq : Quiet D) : Quiet D.tick := ⟨hq.off, hq.fails, hq.cut⟩
theorem One.appendQ (h : One nm f D) (hq : Quiet D) (data : List Int) : (D.append nm data).1 = 0 ∧ One nm (FileS.add data f) (D.append nm data).2 ∧ Quiet (D.append nm data).2 ∧ (D.append nm data).2.count = D.count + 1 := by
  have e : D.append nm data = (0, Disk.onFile nm (FileS.add data) D.tick) := by unfold Disk.append; rw [hq.run, if_pos h.gone]
  rw [e]
  exact ⟨rfl, h.tick.onFile _, hq.ticked.onFile _ _, (onFile_off _ _ _).2.1⟩
theorem One.syncQ (h : One nm f D) (hq : Quiet D) : (D.sync nm).1 = 0 ∧ One nm f.sync (D.sync nm).2 ∧ Quiet (D.sync nm).2 ∧ (D.sync nm).2.count = D.count + 1 := by
  have e : D.sync nm = (0, Disk.onFile nm FileS.sync D.tick) := by unfold Disk.sync; rw [hq.run, if_pos h.gone]
  rw [e]
  exact ⟨rfl, h.tick.onFile _, hq.ticked.onFile _ _, (onFile_off _ _ _).2.1⟩
theorem One.crash (h : One nm f D) (fs : List Int) (k : Int) : D.crash fs k = [plain nm (f.fated (fatesFrom fs 0 (waitList f).length))] := by
  have hl : D.left k.toNat = [(nm, 0)] := by unfold Disk.left; rw [h.changes, h.sure]; simp
  unfold Disk.crash inOrder byBirth
  rw [hl, List.mergeSort_singleton, List.mergeSort_singleton]
  simp [sidesBy, sideOf, h.file]
end
/-- The first file of a new disk, its name made safe. -/
theorem one_new {nm : Name} (hg : good nm = true) : Disk.new.create nm = (0, { Disk.new with files := [FileS.new], now := [(nm, 0)], changes := [⟨none, some (nm, 0)⟩], since := 1, count := 1 }) ∧
    (({ Disk.new with files := [FileS.new], now := [(nm, 0)], changes := [⟨none, some (nm, 0)⟩], since := 1, count := 1 } : Disk).syncNames).1 = 0 ∧
    One nm FileS.new (({ Disk.new with files := [FileS.new], now := [(nm, 0)], changes := [⟨none, some (nm, 0)⟩], since := 1, count := 1 } : Disk).syncNames).2 ∧
    Quiet (({ Disk.new with files := [FileS.new], now := [(nm, 0)], changes := [⟨none, some (nm, 0)⟩], since := 1, count := 1 } : Disk).syncNames).2 ∧
    (({ Disk.new with files := [FileS.new], now := [(nm, 0)], changes := [⟨none, some (nm, 0)⟩], since := 1, count := 1 } : Disk).syncNames).2.count = 2 := by
  have q0 : Quiet Disk.new := ⟨rfl, rfl, rfl⟩
  have hr : Disk.new.refuseCreate nm = 0 := by
    unfold Disk.refuseCreate
    rw [if_neg (by rw [hg]; simp)]
    rfl
  refine ⟨?_, ?_⟩
  · unfold Disk.create
    rw [q0.run, if_pos hr]
    rfl
  · have q1 : Quiet ({ Disk.new with files := [FileS.new], now := [(nm, 0)], changes := [⟨none, some (nm, 0)⟩], since := 1, count := 1 } : Disk) := ⟨rfl, rfl, rfl⟩
    unfold Disk.syncNames
    rw [q1.run, if_pos rfl]
    exact ⟨rfl, ⟨rfl, rfl, rfl, rfl⟩, ⟨rfl, rfl, rfl⟩, rfl⟩
end Go.Proofs.YtkmmlfphcfcbgaaGreatDoor.Dm
namespace Go.Proofs.YtkmmlfphcfcbgaaGreatDoor.Sg
open Go.Proofs.YtkmmlfphcfcbgaaGreatDoor.Dm
set_option linter.unusedVariables false
/-- A segment: its file's name, the next record's number, how many blocks, is it whole, is it sick. -/
structure SegS where
  nm : Name
  next : Nat
  blocks : Nat
  whole : Bool
  sick : Bool
abbrev eLong : Err := 4
/-- What Pack answers. -/
def packE (first : Nat) (rs : List Bytes) : Err × Bytes :=
  if rs = [] then (0, []) else
  if ¬ Sg.numbers first rs.length then (eArg, []) else
  if rs.any (fun r => decide (200 < r.length)) = true then (eLong, []) else (0, pack crc rs.length first rs)
theorem packE_ok {first : Nat} {rs : List Bytes} (h0 : rs ≠ []) (h : (packE first rs).1 = 0) : Sg.numbers first rs.length ∧ (∀ r, r ∈ rs → r.length ≤ 200) ∧ (packE first rs).2 = pack crc rs.length first rs := by
  unfold packE at h ⊢
  rw [if_neg h0] at h ⊢
  by_cases h1 : Sg.numbers first rs.length
  · rw [if_neg (by simp [h1])] at h ⊢
    by_cases h2 : rs.any (fun r => decide (200 < r.length)) = true
    · rw [if_pos h2] at h; cases h
    · rw [if_neg h2]
      refine ⟨h1, fun r hr => ?_, rfl⟩
      have h3 : ¬ ∃ x, x ∈ rs ∧ 200 < x.length := by
        intro ⟨x, hx, hl⟩
        exact h2 (List.any_eq_true.2 ⟨x, hx, decide_eq_true hl⟩)
      rcases Nat.lt_or_ge 200 r.length with h4 | h4
      · exact absurd ⟨r, hr, h4⟩ h3
      · exact h4
  · rw [if_pos h1] at h; cases h
theorem packE_err {first : Nat} {rs : List Bytes} : (packE first rs).1 = 0 ∨ (packE first rs).1 = 1 ∨ (packE first rs).1 = 4 := by
  unfold packE
  split
  · exact Or.inl rfl
  · split
    · exact Or.inr (Or.inl rfl)
    · split
      · exact Or.inr (Or.inr rfl)
      · exact Or.inl rfl
theorem packE_num {first : Nat} {rs : List Bytes} (h : Sg.numbers first rs.length) : (packE first rs).1 ≠ 1 := by
  unfold packE
  by_cases h0 : rs = []
  · rw [if_pos h0]; intro e; cases e
  · rw [if_neg h0, if_neg (fun hn => hn h)]
    by_cases h1 : rs.any (fun r => decide (200 < r.length)) = true
    · rw [if_pos h1]; intro e; cases e
    · rw [if_neg h1]; intro e; cases e
/-- A segment over a disk of one file: its blocks by their records; so many bytes stand behind them. -/
structure Over (s : SegS) (first : Nat) (gs : List (List Bytes)) (f : FileS) : Prop where
  seen : f.seen = lay crc first gs
  next : s.next = first + gs.flatten.length
  blocks : s.blocks = gs.length
  whole : s.whole = true
  well : s.sick = false
  good : ∀ g, g ∈ gs → GoodG g
  nums : gs ≠ [] → Sg.numbers first gs.flatten.length
/-- The segment behind an append that went. -/
def SegS.more (s : SegS) (rs : List Bytes) : SegS := { s with next := s.next + rs.length, blocks := s.blocks + (pack crc rs.length s.next rs).length / 512 }
theorem Over.more {s : SegS} {first : Nat} {gs : List (List Bytes)} {f : FileS} (h : Over s first gs f) {rs : List Bytes} (h0 : rs ≠ []) (hp : (packE s.next rs).1 = 0) (hf : 1 ≤ first) :
    Over (s.more rs) first (gs ++ cutRecs rs.length rs) (FileS.add (packE s.next rs).2 f) := by
  obtain ⟨p1, p2, p3⟩ := packE_ok h0 hp
  have hfl : (cutRecs rs.length rs).flatten = rs := cutRecs_flatten _ rs (Nat.le_refl _) p2
  rw [p3]
  refine ⟨?_, ?_, ?_, h.whole, h.well, fun g hg => ?_, fun _ => ?_⟩
  · rw [add_seen, h.seen, h.next, lay_group]
  · show s.next + rs.length = _
    rw [h.next, List.flatten_append, List.length_append, hfl, Nat.add_assoc]
  · show s.blocks + (pack crc rs.length s.next rs).length / 512 = _
    rw [h.blocks, pack_length, List.length_append, cutRecs_count]; omega
  · rcases List.mem_append.1 hg with hg | hg
    · exact h.good g hg
    · exact cutRecs_good _ rs p2 g hg
  · obtain ⟨q1, q2, q3⟩ := p1
    rw [h.next] at q3
    rw [List.flatten_append, List.length_append, hfl]
    exact ⟨hf, by omega, by omega⟩
end Go.Proofs.YtkmmlfphcfcbgaaGreatDoor.Sg

/- What Open finds, as plain data: other bytes behind the blocks, a loss of power. -/
namespace Go.Proofs.YtkmmlfphcfcbgaaGreatDoor.Sg
open Go.Proofs.YtkmmlfphcfcbgaaGreatDoor.Dm
set_option linter.unusedVariables false
/-- A whole file's good blocks. -/
def scanAll (data : Bytes) (bad : List Int) (first : Nat) : List Bytes × Nat := scan crc data bad (data.length / 512 + 1) 0 first
theorem takeRecs_count : ∀ (n : Nat) (b : Bytes) (rs : List Bytes) (rest : Bytes), takeRecs n b = some (rs, rest) → rs.length = n ∧ 2 * n ≤ b.length ∧ ∀ r, r ∈ rs → r.length ≤ 200 ∧ ∀ x, x ∈ r → x ∈ b
  | 0, b, rs, rest, h => by
    simp only [takeRecs, Option.some.injEq, Prod.mk.injEq] at h
    rw [← h.1]; exact ⟨rfl, by omega, fun r hr => by cases hr⟩
  | n + 1, b, rs, rest, h => by
    unfold takeRecs at h
    split at h
    · cases h
    · rename_i h1
      split at h
      · cases h
      · rename_i h2
        cases hc : takeRecs n ((b.drop 2).drop (ofLe (b.take 2))) with
        | none => rw [hc] at h; cases h
        | some p =>
          obtain ⟨rs', rest'⟩ := p
          rw [hc] at h
          simp only [Option.some.injEq, Prod.mk.injEq] at h
          obtain ⟨i1, i2, i3⟩ := takeRecs_count n _ rs' rest' hc
          rw [← h.1]
          refine ⟨by simp [i1], ?_, fun r hr => ?_⟩
          · rw [List.length_drop, List.length_drop] at i2
            have := h2
            rw [List.length_drop] at this
            omega
          · rcases List.mem_cons.1 hr with rfl | hr
            · refine ⟨?_, fun x hx => List.mem_of_mem_drop (List.mem_of_mem_take hx)⟩
              rw [List.length_take]; omega
            · exact ⟨(i3 r hr).1, fun x hx => List.mem_of_mem_drop (List.mem_of_mem_drop ((i3 r hr).2 x hx))⟩
theorem decode_count {sm : Bytes → Nat} {b : Bytes} {a : Nat} {rs : List Bytes} (h : decode sm b = some (a, rs)) : b.length = 512 ∧ numbers a rs.length ∧ 2 * rs.length ≤ 494 ∧ ∀ r, r ∈ rs → r.length ≤ 200 ∧ ∀ x, x ∈ r → x ∈ b := by
  unfold decode at h
  split at h
  · rename_i h1
    cases hc : takeRecs (ofLe ((b.drop 12).take 2)) (b.drop 18) with
    | none => rw [hc] at h; cases h
    | some p =>
      obtain ⟨rs', rest⟩ := p
      rw [hc] at h
      simp only at h
      split at h
      · simp only [Option.some.injEq, Prod.mk.injEq] at h
        obtain ⟨i1, i2, i3⟩ := takeRecs_count _ _ _ _ hc
        rw [← h.1, ← h.2]
        rw [List.length_drop, h1.1] at i2
        exact ⟨h1.1, by rw [i1]; exact h1.2.2.2, by omega, fun r hr => ⟨(i3 r hr).1, fun x hx => List.mem_of_mem_drop ((i3 r hr).2 x hx)⟩⟩
      · cases h
  · cases h
theorem scan_count (sm : Bytes → Nat) (data : Bytes) (bad : List Int) (fuel : Nat) : ∀ (i first : Nat), (scan sm data bad fuel i first).1.length ≤ 247 * (scan sm data bad fuel i first).2 ∧ ∀ r, r ∈ (scan sm data bad fuel i first).1 → r.length ≤ 200 ∧ ∀ x, x ∈ r → x ∈ data := by
  induction fuel with
  | zero => intro i first; exact ⟨by simp [scan], fun r hr => by cases hr⟩
  | succ fuel ih =>
    intro i first
    rw [scan_succ]
    unfold scanStep
    split
    · cases hd : decode sm ((data.drop (i * 512)).take 512) with
      | none => exact ⟨by simp, fun r hr => by cases hr⟩
      | some p =>
        obtain ⟨a, rs⟩ := p
        simp only
        split
        · obtain ⟨_, _, d3, d4⟩ := decode_count hd
          obtain ⟨i1, i2⟩ := ih (i + 1) (first + rs.length)
          refine ⟨by rw [List.length_append]; omega, fun r hr => ?_⟩
          rcases List.mem_append.1 hr with hr | hr
          · exact ⟨(d4 r hr).1, fun x hx => List.mem_of_mem_drop (List.mem_of_mem_take ((d4 r hr).2 x hx))⟩
          · exact i2 r hr
        · exact ⟨by simp, fun r hr => by cases hr⟩
    · exact ⟨by simp, fun r hr => by cases hr⟩
theorem scanAll_room (data : Bytes) (bad : List Int) (first : Nat) : (scanAll data bad first).2 * 512 ≤ data.length := by
  have := scan_room crc data bad (data.length / 512 + 1) 0 first (by omega)
  rw [Nat.zero_add] at this
  exact this
theorem scanAll_count (data : Bytes) (bad : List Int) (first : Nat) : (scanAll data bad first).1.length ≤ data.length := by
  have h1 := (scan_count crc data bad (data.length / 512 + 1) 0 first).1
  have h2 := scanAll_room data bad first
  unfold scanAll at h2 ⊢
  omega
/-- Blocks, and what stands behind them. -/
theorem scanAll_lay {first : Nat} {gs : List (List Bytes)} (t : Bytes) (hn : gs ≠ [] → numbers first gs.flatten.length) (hg : ∀ g, g ∈ gs → GoodG g) :
    scanAll (lay crc first gs ++ t) [] first = (gs.flatten ++ (scanAll t [] (first + gs.flatten.length)).1, gs.length + (scanAll t [] (first + gs.flatten.length)).2) := by
  unfold scanAll
  have hl : (lay crc first gs ++ t).length / 512 + 1 = gs.length + (t.length / 512 + 1) := by
    rw [List.length_append, lay_length crc gs first hg]; omega
  rw [hl]
  exact scan_lay crc crc_lt gs first t _ hn hg
theorem scanAll_nil (first : Nat) : scanAll [] [] first = ([], 0) := scan_zero crc [] [] _ 0 first (by simp)
/-- Blocks alone. -/
theorem scanAll_whole {first : Nat} {gs : List (List Bytes)} (hn : gs ≠ [] → numbers first gs.flatten.length) (hg : ∀ g, g ∈ gs → GoodG g) : scanAll (lay crc first gs) [] first = (gs.flatten, gs.length) := by
  have := scanAll_lay [] hn hg
  rw [List.append_nil, scanAll_nil, List.append_nil] at this
  exact this
/-- SegmentSafe, while the groups are handed in: what is there, how many blocks of it are safe. -/
structure Safe1 (s : SegS) (first : Nat) (gs : List (List Bytes)) (f : FileS) (k : Nat) : Prop where
  over : Over s first gs f
  half : Half f k
  le : k ≤ gs.length
/-- .. and when one of them has failed, or at the end. -/
structure Safe2 (first : Nat) (gs : List (List Bytes)) (f : FileS) (k : Nat) : Prop where
  seen : ∃ t, lay crc first gs = f.seen ++ t
  half : Half f k
  le : k ≤ gs.length
  good : ∀ g, g ∈ gs → GoodG g
  nums : gs ≠ [] → Sg.numbers first gs.flatten.length
theorem Safe1.more {s : SegS} {first : Nat} {gs : List (List Bytes)} {f : FileS} {k : Nat} (h : Safe1 s first gs f k) {rs : List Bytes} (h0 : rs ≠ []) (hp : (packE s.next rs).1 = 0) (hf : 1 ≤ first) :
    Safe1 (s.more rs) first (gs ++ cutRecs rs.length rs) (FileS.add (packE s.next rs).2 f) k :=
  ⟨h.over.more h0 hp hf, half_add h.half _, by rw [List.length_append]; have := h.le; omega⟩
/-- An append of which a piece alone is written. -/
theorem Safe1.part {s : SegS} {first : Nat} {gs : List (List Bytes)} {f : FileS} {k : Nat} (h : Safe1 s first gs f k) {rs : List Bytes} (h0 : rs ≠ []) (hp : (packE s.next rs).1 = 0) (hf : 1 ≤ first) (n : Nat) :
    Safe2 first (gs ++ cutRecs rs.length rs) (FileS.add ((packE s.next rs).2.take n) f) k := by
  have h1 := (h.more h0 hp hf).over
  refine ⟨⟨(packE s.next rs).2.drop n, ?_⟩, half_add h.half _, by rw [List.length_append]; have := h.le; omega, h1.good, h1.nums⟩
  rw [← h1.seen, add_seen, add_seen, List.append_assoc, List.take_append_drop]
theorem Safe1.sync {s : SegS} {first : Nat} {gs : List (List Bytes)} {f : FileS} {k : Nat} (h : Safe1 s first gs f k) : Safe1 s first gs f.sync gs.length :=
  ⟨⟨h.over.seen, h.over.next, h.over.blocks, h.over.whole, h.over.well, h.over.good, h.over.nums⟩, half_sync h.half (by rw [h.over.seen, lay_length crc gs first h.over.good]; omega), Nat.le_refl _⟩
theorem add_good {f : FileS} (h : ∀ k, f.badSeen k = false) (data : List Int) : ∀ k, (FileS.add data f).badSeen k = false := by
  intro k
  unfold FileS.add
  split
  · exact h k
  · simp [h k]
theorem numbers_none {b : Nat → Bool} (h : ∀ k, b k = false) (m : Nat) : Dm.numbers b m = [] := by
  unfold Dm.numbers
  have : (List.range m).filter b = [] := List.filter_eq_nil_iff.2 fun a _ => by rw [h a]; simp
  rw [this]; rfl
end Go.Proofs.YtkmmlfphcfcbgaaGreatDoor.Sg

/- How much groups of records are; bytes of blocks. -/
namespace Go.Proofs.YtkmmlfphcfcbgaaGreatDoor.Sg
open Go.Proofs.YtkmmlfphcfcbgaaGreatDoor.Dm
set_option linter.unusedVariables false
abbrev Group := List Bytes × Bool
def Byte (x : Int) : Prop := 0 ≤ x ∧ x < 256
/-- How much records are, as far as it counts. -/
def recTo : List Bytes → Nat → Nat
  | [], n => n
  | r :: rs, n => if n ≤ 4194304 then recTo rs (n + (r.length + 8)) else n
def groupTo : List Group → Nat → Nat
  | [], n => n
  | g :: gs, n => if n ≤ 4194304 then groupTo gs (recTo g.1 (n + 1)) else n
def recSum (rs : List Bytes) : Nat := (rs.map fun r => r.length + 8).sum
def groupSum (gs : List Group) : Nat := (gs.map fun g => 1 + recSum g.1).sum
theorem recTo_le : ∀ (rs : List Bytes) (n : Nat), n ≤ recTo rs n
  | [], n => Nat.le_refl _
  | r :: rs, n => by
    unfold recTo
    split
    · exact Nat.le_trans (by omega) (recTo_le rs _)
    · exact Nat.le_refl _
theorem recTo_sum : ∀ (rs : List Bytes) (n : Nat), recTo rs n ≤ 4194304 → recTo rs n = n + recSum rs
  | [], n, _ => by simp [recTo, recSum]
  | r :: rs, n, h => by
    have hn := Nat.le_trans (recTo_le (r :: rs) n) h
    unfold recTo at h ⊢
    rw [if_pos hn] at h ⊢
    rw [recTo_sum rs _ h]
    simp only [recSum, List.map_cons, List.sum_cons]
    omega
theorem groupTo_le : ∀ (gs : List Group) (n : Nat), n ≤ groupTo gs n
  | [], n => Nat.le_refl _
  | g :: gs, n => by
    unfold groupTo
    split
    · exact Nat.le_trans (by have := recTo_le g.1 (n + 1); omega) (groupTo_le gs _)
    · exact Nat.le_refl _
theorem groupTo_sum : ∀ (gs : List Group) (n : Nat), groupTo gs n ≤ 4194304 → groupTo gs n = n + groupSum gs
  | [], n, _ => by simp [groupTo, groupSum]
  | g :: gs, n, h => by
    have hn := Nat.le_trans (groupTo_le (g :: gs) n) h
    unfold groupTo at h ⊢
    rw [if_pos hn] at h ⊢
    have h1 := recTo_sum g.1 (n + 1) (Nat.le_trans (groupTo_le gs _) h)
    rw [groupTo_sum gs _ h, h1]
    simp only [groupSum, List.map_cons, List.sum_cons]
    omega
def heavyN (gs : List Group) : Nat := groupTo gs 0
theorem heavy_sum {gs : List Group} (h : heavyN gs ≤ 4194304) : groupSum gs ≤ 4194304 := by
  have := groupTo_sum gs 0 h
  unfold heavyN at h
  omega
theorem groupSum_cons (g : Group) (gs : List Group) : groupSum (g :: gs) = 1 + recSum g.1 + groupSum gs := by simp [groupSum]
theorem groupSum_take : ∀ (gs : List Group) (j : Nat), groupSum (gs.take j) ≤ groupSum gs
  | [], j => by simp
  | g :: gs, 0 => by simp [groupSum]
  | g :: gs, j + 1 => by
    rw [List.take_succ_cons, groupSum_cons, groupSum_cons]
    have := groupSum_take gs j
    omega
theorem recSum_len (rs : List Bytes) : 8 * rs.length ≤ recSum rs := by
  induction rs with
  | nil => exact Nat.zero_le _
  | cons r rs ih => simp only [recSum, List.map_cons, List.sum_cons, List.length_cons] at ih ⊢; omega
theorem recSum_mem {rs : List Bytes} {r : Bytes} (h : r ∈ rs) : r.length + 8 ≤ recSum rs := by
  induction rs with
  | nil => cases h
  | cons a rs ih =>
    simp only [recSum, List.map_cons, List.sum_cons] at ih ⊢
    rcases List.mem_cons.1 h with rfl | h
    · omega
    · have := ih h; omega
/-- Bytes of blocks are bytes. -/
theorem zeros_byte {n : Nat} {x : Int} (h : x ∈ zeros n) : Byte x := by
  have := (List.mem_replicate.1 h).2
  unfold Byte; omega
theorem body_byte {rs : List Bytes} (h : ∀ r, r ∈ rs → ∀ x, x ∈ r → Byte x) {x : Int} (hx : x ∈ body rs) : Byte x := by
  unfold body at hx
  obtain ⟨r, hr, hx⟩ := List.mem_flatMap.1 hx
  rcases List.mem_append.1 hx with hx | hx
  · exact le_byte 2 _ _ hx
  · exact h r hr x hx
theorem blk_byte (sm : Bytes → Nat) {first : Nat} {rs : List Bytes} (h : ∀ r, r ∈ rs → ∀ x, x ∈ r → Byte x) {x : Int} (hx : x ∈ blk sm first rs) : Byte x := by
  unfold blk fill at hx
  rcases List.mem_append.1 hx with hx | hx
  · have hm : ∀ y, y ∈ magic → Byte y := by unfold Byte; decide
    exact hm x hx
  rcases List.mem_append.1 hx with hx | hx
  · exact le_byte 8 _ _ hx
  rcases List.mem_append.1 hx with hx | hx
  · exact le_byte 2 _ _ hx
  rcases List.mem_append.1 hx with hx | hx
  · exact le_byte 4 _ _ hx
  rcases List.mem_append.1 hx with hx | hx
  · exact body_byte h hx
  · exact zeros_byte hx
theorem pack_byte (sm : Bytes → Nat) (fuel : Nat) : ∀ (first : Nat) (rs : List Bytes), (∀ r, r ∈ rs → ∀ x, x ∈ r → Byte x) → ∀ x, x ∈ pack sm fuel first rs → Byte x := by
  induction fuel with
  | zero => intro first rs h x hx; cases hx
  | succ fuel ih =>
    intro first rs h x hx
    unfold pack at hx
    split at hx
    · cases hx
    · rcases List.mem_append.1 hx with hx | hx
      · exact blk_byte sm (fun r hr => h r (List.mem_of_mem_take hr)) hx
      · exact ih _ _ (fun r hr => h r (List.mem_of_mem_drop hr)) x hx
theorem packE_byte {first : Nat} {rs : List Bytes} (h : ∀ r, r ∈ rs → ∀ x, x ∈ r → Byte x) : ∀ x, x ∈ (packE first rs).2 → Byte x := by
  unfold packE
  split
  · intro x hx; cases hx
  · split
    · intro x hx; cases hx
    · split
      · intro x hx; cases hx
      · exact pack_byte crc _ _ _ h
theorem blocks_le : ∀ (fuel : Nat) (rs : List Bytes), (∀ r, r ∈ rs → r.length ≤ 200) → blocks fuel rs ≤ rs.length
  | 0, rs, _ => Nat.zero_le _
  | fuel + 1, rs, h => by
    unfold blocks
    split
    · exact Nat.zero_le _
    · rename_i h0
      have h1 := fits_pos h0 h
      have h2 := blocks_le fuel (rs.drop (fits rs 0)) (fun r hr => h r (List.mem_of_mem_drop hr))
      have h3 : 1 ≤ rs.length := List.length_pos_iff.2 h0
      rw [List.length_drop] at h2
      omega
theorem pack_size {first : Nat} {rs : List Bytes} (h : ∀ r, r ∈ rs → r.length ≤ 200) : (pack crc rs.length first rs).length ≤ 512 * rs.length := by
  rw [pack_length]
  have := blocks_le rs.length rs h
  omega
theorem packE_size (first : Nat) (rs : List Bytes) : (packE first rs).2.length ≤ 512 * rs.length := by
  by_cases h0 : rs = []
  · subst h0; simp [packE]
  · by_cases h1 : (packE first rs).1 = 0
    · obtain ⟨_, p2, p3⟩ := packE_ok h0 h1
      rw [p3]; exact pack_size p2
    · have : (packE first rs).2 = [] := by
        unfold packE at h1 ⊢
        rw [if_neg h0] at h1 ⊢
        by_cases h2 : ¬ Sg.numbers first rs.length
        · rw [if_pos h2]
        · rw [if_neg h2] at h1 ⊢
          by_cases h3 : rs.any (fun r => decide (200 < r.length)) = true
          · rw [if_pos h3]
          · rw [if_neg h3] at h1; exact absurd rfl h1
      rw [this]; exact Nat.zero_le _
end Go.Proofs.YtkmmlfphcfcbgaaGreatDoor.Sg

/- Names of segments, as plain lists of bytes (no program in sight). -/
namespace Go.Proofs.YtkmmlfphcfcbgaaGreatDoor.Sg
set_option linter.unusedVariables false
/-- A digit of base 16. -/
def hexd (x : Nat) : Int := if x < 10 then (48 + x : Nat) else (87 + x : Nat)
/-- x in n digits of base 16. -/
def digs : Nat → Nat → List Int
  | 0, _ => []
  | n + 1, x => digs n (x / 16) ++ [hexd (x % 16)]
theorem digs_length : ∀ n x, (digs n x).length = n
  | 0, _ => rfl
  | n + 1, x => by simp [digs, digs_length n]
def logB : List Int := [108, 111, 103, 46]
/-- A segment's name. -/
def nameOf (x : Nat) : List Int := logB ++ digs 16 x
/-- As few digits as can be (fuel: 16 of them serve). -/
def least : Nat → Nat → List Int
  | 0, _ => []
  | n + 1, x => if x < 16 then [hexd x] else least n (x / 16) ++ [hexd (x % 16)]
theorem least_digs : ∀ (n x : Nat), x < 16 ^ (n + 1) → (least (n + 1) x).length ≤ n + 1 ∧ List.replicate (n + 1 - (least (n + 1) x).length) 48 ++ least (n + 1) x = digs (n + 1) x
  | 0, x, h => by
    have h : x < 16 := by simpa using h
    simp [least, h, digs, Nat.mod_eq_of_lt h]
  | n + 1, x, h => by
    by_cases hx : x < 16
    · have e : least (n + 1 + 1) x = [hexd x] := by rw [least, if_pos hx]
      have hz : ∀ m, digs m 0 = List.replicate m 48 := by
        intro m
        induction m with
        | zero => rfl
        | succ m ih => rw [digs, Nat.zero_div, ih, List.replicate_succ']; rfl
      rw [e, digs, Nat.div_eq_of_lt hx, hz, Nat.mod_eq_of_lt hx]
      exact ⟨by simp, by simp⟩
    · have e : least (n + 1 + 1) x = least (n + 1) (x / 16) ++ [hexd (x % 16)] := by rw [least, if_neg hx]
      have h1 : x / 16 < 16 ^ (n + 1) := by
        rw [Nat.pow_succ, Nat.mul_comm] at h
        exact Nat.div_lt_of_lt_mul h
      obtain ⟨i1, i2⟩ := least_digs n (x / 16) h1
      rw [e, digs, ← i2]
      refine ⟨by simp; omega, ?_⟩
      rw [List.length_append, List.length_singleton, ← List.append_assoc]
      congr 3
      omega
/-- A segment's name as it is made: zeros ahead of the digits. -/
theorem nameOf_least (x : Nat) (h : x < 18446744073709551616) : (least 16 x).length ≤ 16 ∧ logB ++ (List.replicate (16 - (least 16 x).length) 48 ++ least 16 x) = nameOf x := by
  obtain ⟨h1, h2⟩ := least_digs 15 x (by omega)
  exact ⟨h1, by unfold nameOf; rw [h2]⟩
end Go.Proofs.YtkmmlfphcfcbgaaGreatDoor.Sg

/- The pure disk: loading an image, file by file. -/
namespace Go.Proofs.YtkmmlfphcfcbgaaGreatDoor.Dm
set_option linter.unusedVariables false
end Go.Proofs.YtkmmlfphcfcbgaaGreatDoor.Dm

/- The disk of lives, as plain data. -/
namespace Go.Proofs.YtkmmlfphcfcbgaaGreatDoor.Dm
end Go.Proofs.YtkmmlfphcfcbgaaGreatDoor.Dm

/- A disk whose first operation is told to fail. -/
namespace Go.Proofs.YtkmmlfphcfcbgaaGreatDoor.Dm
set_option linter.unusedVariables false
/-- Told to fail at the first operation. -/
def Disk.first (D : Disk) (part : Int) : Disk := D.arm [(1, part)] 0
theorem first_armed {D : Disk} (ho : D.off = false) (part : Int) : (D.first part).off = false ∧ (D.first part).tick.armed = .fails part ∧ (D.first part).tick.off = false := by
  unfold Disk.first Disk.arm
  rw [if_neg (by rw [ho]; simp)]
  refine ⟨ho, ?_, ho⟩
  unfold Disk.armed Disk.tick
  simp
theorem first_sync {D : Disk} (ho : D.off = false) (part : Int) (nm : Name) : ((D.first part).sync nm).1 = 6 := by
  obtain ⟨h1, h2, h3⟩ := first_armed ho part
  unfold Disk.sync Disk.run
  rw [if_neg (by rw [h1]; simp), h2]
theorem first_append {D : Disk} (ho : D.off = false) (part : Int) (nm : Name) (data : List Int) : ((D.first part).append nm data).1 = 6 := by
  obtain ⟨h1, h2, h3⟩ := first_armed ho part
  unfold Disk.append Disk.run
  rw [if_neg (by rw [h1]; simp), h2]
end Go.Proofs.YtkmmlfphcfcbgaaGreatDoor.Dm
