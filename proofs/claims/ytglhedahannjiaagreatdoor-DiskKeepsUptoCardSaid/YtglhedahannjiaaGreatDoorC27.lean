/- A part of the proof of diskDown_holds: Fh, Fi, Fj. No condition. -/
import Derived.Test.YtglhedahannjiaaGreatDoorC26

/- Walks: ints, images, bytes, operation: what two images have in common, how great one is. -/
namespace Go.Proofs.YtglhedahannjiaaGreatDoor.Dw
open Go.RowKit Go.ChangeMaps Go.Proofs.YtglhedahannjiaaGreatDoor.Mp Go.Proofs.YtglhedahannjiaaGreatDoor.Dm Go.Proofs.YtglhedahannjiaaGreatDoor.Da
open Go.Proofs.YtglhedahannjiaaGreatDoorW.PrintWords (Kd ReadsInt string_of_reads)
set_option linter.unusedVariables false
set_option linter.unusedSimpArgs false
set_option linter.unusedSectionVars false
theorem take_all {α : Type} {xs ys : List α} (hl : xs.length = ys.length) (h : xs.take xs.length = ys.take xs.length) : xs = ys := by
  rw [List.take_length, hl, List.take_length] at h; exact h
theorem take_step {α : Type} {xs ys : List α} {j : Nat} {a b : α} (hx : xs[j]? = some a) (hy : ys[j]? = some b) (h : xs.take j = ys.take j) (hab : a = b) : xs.take (j + 1) = ys.take (j + 1) := by
  rw [List.take_add_one, List.take_add_one, hx, hy, h, hab]
theorem ne_at {α : Type} {xs ys : List α} {j : Nat} {a b : α} (hx : xs[j]? = some a) (hy : ys[j]? = some b) (hab : a ≠ b) : xs ≠ ys := by
  rintro rfl; rw [hx] at hy; exact hab (Option.some.inj hy)
set_option maxHeartbeats 1000000 in
set_option maxRecDepth 100000 in
theorem ints_calls (w : World) (xs ys : List Int) (A1 A2 : Option Addr) (c1 c2 : Nat) (hx : ∀ j (h : j < xs.length), ∃ a, A1 = some a ∧ w.cell? (a.add j) = some (.int .i64 xs[j])) (hy : ∀ j (h : j < ys.length), ∃ a, A2 = some a ∧ w.cell? (a.add j) = some (.int .i64 ys[j]))
    (hlx : xs.length ≤ 9223372036854775807) (hly : ys.length ≤ 9223372036854775807) (hc1 : xs.length ≤ c1) (hc2 : ys.length ≤ c2) :
    Calls Tryz.prog 81 #[.slice A1 xs.length c1, .slice A2 ys.length c2] w fun e w' => e = .returned (.bool (decide (xs = ys))) ∧ ∃ q, w' = w.drewN q := by
  have HX := Lib.hid hx
  have HY := Lib.hid hy
  clear hx hy
  by_cases hl : xs.length = ys.length
  · have hlb : (xs.length == ys.length) = true := by simpa using hl
    have HL := Lib.hid hl
    clear hl
    go_enter Tryz.func81, Tryz.ntmps81
    go_wp2
    go_loopw [5] (fun v wr => ∃ j q, v = .int .i64 (j : Nat) ∧ j ≤ xs.length ∧ wr = w.drewN q ∧ xs.take j = ys.take j) (fun v _ => xs.length - (intOf v).toNat)
    case atStart => exact ⟨0, 0, rfl, Nat.zero_le _, rfl, rfl⟩
    case round =>
      obtain ⟨j, q, rfl, hj, rfl, ht⟩ := hrel
      have HT := Lib.hid ht
      clear ht
      by_cases hlt : j < xs.length
      · obtain ⟨a1, rfl, hca⟩ := HX.out j hlt
        obtain ⟨a2, rfl, hcb⟩ := HY.out j (by have := HL.out; omega)
        obtain ⟨x, hx⟩ : ∃ x, xs[j]? = some x := ⟨_, List.getElem?_eq_getElem hlt⟩
        obtain ⟨y, hy⟩ : ∃ y, ys[j]? = some y := ⟨_, List.getElem?_eq_getElem (by have := HL.out; omega)⟩
        have hxg : xs[j] = x := by rw [List.getElem?_eq_getElem hlt] at hx; exact Option.some.inj hx
        have hyg : ys[j]'(by have := HL.out; omega) = y := by rw [List.getElem?_eq_getElem (by have := HL.out; omega)] at hy; exact Option.some.inj hy
        rw [hxg] at hca
        rw [hyg] at hcb
        have HXY := Lib.hid (And.intro hx hy)
        have hlt2 : j < ys.length := by have := HL.out; omega
        have hj1 : j < c1 := by omega
        have hj2 : j < c2 := by omega
        clear hx hy hxg hyg
        by_cases hxy : x = y
        · subst hxy
          go_wp2
          go_quiet (fail)
          go_wp2
          exact ⟨⟨j + 1, _, by go_num, by omega, rfl, take_step HXY.out.1 HXY.out.2 HT.out rfl⟩, by simp [intOf]; omega⟩
        · have hnb : (x != y) = true := by simpa using hxy
          have hd : decide (xs = ys) = false := decide_eq_false (ne_at HXY.out.1 HXY.out.2 hxy)
          have HD := Lib.hid hd
          clear hd
          go_wp2
          go_quiet (fail)
          go_wp2
          go_ret
          exact ⟨by rw [HD.out]; rfl, q + nq, World.drewN_drewN _ _ _⟩
      · obtain rfl : j = xs.length := by omega
        have hd : decide (xs = ys) = true := decide_eq_true (take_all HL.out HT.out)
        have HD := Lib.hid hd
        clear hd
        go_wp2
        go_ret
        exact ⟨by rw [HD.out]; rfl, q, rfl⟩
  · have hlb : (xs.length == ys.length) = false := by simpa using hl
    have hd : decide (xs = ys) = false := decide_eq_false (fun e => hl (by rw [e]))
    rw [hd]
    clear hl hd
    go_enter Tryz.func81, Tryz.ntmps81
    go_wp2
    go_ret
    exact ⟨rfl, 0, rfl⟩
theorem byte_nat {x : Int} (h : 0 ≤ x ∧ x < 256) : ((UInt8.ofNat x.toNat).toNat : Int) = x := by
  have : x.toNat < 256 := by omega
  rw [UInt8.toNat_ofNat_of_lt' this]; omega
theorem str_inj {xs ys : List Int} (hx : ∀ x, x ∈ xs → 0 ≤ x ∧ x < 256) (hy : ∀ x, x ∈ ys → 0 ≤ x ∧ x < 256) (h : strOfNums xs = strOfNums ys) : xs = ys := by
  have h1 : (strOfNums xs).data.toList = (strOfNums ys).data.toList := by rw [h]
  rw [strOfNums_data, strOfNums_data] at h1
  have h2 := congrArg (List.map fun b : UInt8 => (b.toNat : Int)) h1
  rw [List.map_map, List.map_map] at h2
  have e : ∀ zs : List Int, (∀ x, x ∈ zs → 0 ≤ x ∧ x < 256) → zs.map ((fun b : UInt8 => (b.toNat : Int)) ∘ fun n : Int => UInt8.ofNat n.toNat) = zs := by
    intro zs hz
    conv => rhs; rw [← List.map_id zs]
    exact List.map_congr_left fun x hx => byte_nat (hz x hx)
  rw [e xs hx, e ys hy] at h2
  exact h2
theorem str_beq (a b : ByteArray) (r : Bool) (hr : r = true ↔ a = b) : (ByteArray.toList a == ByteArray.toList b) = r := by
  rw [Bool.eq_iff_iff, beq_iff_eq, ByteArray.toList_eq, ByteArray.toList_eq, hr]
  exact ⟨fun h => ByteArray.ext (Array.toList_inj.1 h), fun h => by rw [h]⟩
theorem BytesAt.reads {w : World} {A : Option Addr} {c : Nat} {xs : List Int} (h : BytesAt w (.slice A xs.length c) xs) (hl : xs.length ≤ 9223372036854775807) : ReadsInt w .u8 A xs.length xs := by
  obtain ⟨p, c', e, h⟩ := h
  simp only [Value.slice.injEq, true_and] at e
  obtain ⟨rfl, rfl⟩ := e
  refine ⟨rfl, hl, fun h0 => ?_⟩
  obtain ⟨a, ha, _⟩ := h 0 (.int .u8 (xs[0])) (by simp [u8s, List.getElem?_eq_getElem h0])
  refine ⟨a, ha, fun j hj => ?_⟩
  obtain ⟨a', e, hc⟩ := h j (.int .u8 (xs.getD j 0)) (by simp [u8s, List.getD_eq_getElem?_getD, List.getElem?_eq_getElem hj])
  rw [ha] at e
  cases e
  exact hc
theorem BytesAt.string {w : World} {A : Option Addr} {c : Nat} {xs : List Int} (h : BytesAt w (.slice A xs.length c) xs) (hl : xs.length ≤ 9223372036854775807) (n : Nat) : (convert 22 9 (.slice A xs.length c)).run Tryz.prog (w.drewN n) = .ok (.string (strOfNums xs)) (w.drewN n) :=
  string_of_reads Tryz.underlying22 Tryz.underlying5 Tryz.underlying9 (BytesAt.reads (h.frm ((Frm.refl _ _).drewN n)) hl)
/-- What two images must be for a look at their bytes to tell them apart. -/
def ImgOk (l : List Plain) : Prop := ∀ p, p ∈ l → (∀ x, x ∈ p.data → 0 ≤ x ∧ x < 256) ∧ p.data.length ≤ 140737488355328
set_option maxHeartbeats 2000000 in
set_option maxRecDepth 100000 in
theorem images_calls (w : World) (v1 v2 : Value) (l1 l2 : List Plain) (h1 : ImgRd w v1 l1) (h2 : ImgRd w v2 l2) (ok1 : ImgOk l1) (ok2 : ImgOk l2) (r : Bool) (hr : r = true ↔ l1 = l2) :
    Calls Tryz.prog 28 #[v1, v2] w fun e w' => e = .returned (.bool r) ∧ Frm (fun _ => False) w w' := by
  obtain ⟨B1, d1, rfl, hd1, hC1⟩ := h1
  obtain ⟨B2, d2, rfl, hd2, hC2⟩ := h2
  have hll1 := hC1.2.1
  have hll2 := hC2.2.1
  have HR := Lib.hid hr
  have H1 := Lib.hid hC1
  have H2 := Lib.hid hC2
  have O1 := Lib.hid ok1
  have O2 := Lib.hid ok2
  clear hr hC1 hC2 ok1 ok2
  by_cases hl : l1.length = l2.length
  · have hlb : (l1.length == l2.length) = true := by simpa using hl
    have HL := Lib.hid hl
    clear hl
    go_enter Tryz.func28, Tryz.ntmps28
    go_wp2
    go_loopw [5] (fun v wr => ∃ j, v = .int .i64 (j : Nat) ∧ j ≤ l1.length ∧ Frm (fun _ => False) w wr ∧ wr.heap[w.heap.size]? = some (.cells #[.slice B1 l1.length d1] 36 (0, 0)) ∧ wr.heap[w.heap.size + 1]? = some (.cells #[.slice B2 l2.length d2] 36 (0, 0)) ∧ l1.take j = l2.take j) (fun v _ => l1.length - (intOf v).toNat)
    case atStart =>
      refine ⟨0, rfl, Nat.zero_le _, ((Frm.refl _ _).alloc _).alloc _, (blk_alloc_lt (by simp)).trans blk_alloc, ?_, rfl⟩
      have := blk_alloc (w := w.alloc (.cells #[.slice B1 l1.length d1] 36)) (o := .cells #[.slice B2 l2.length d2] 36)
      simp only [World.size_alloc] at this
      exact this
    case round =>
      obtain ⟨j, rfl, hj, hfr, hb1, hb2, ht⟩ := hrel
      have x1 : wr.cell? ⟨w.heap.size, 0, none⟩ = some (.slice B1 l1.length d1) := cell_of hb1 rfl
      have x2 : wr.cell? ⟨w.heap.size + 1, 0, none⟩ = some (.slice B2 l2.length d2) := cell_of hb2 rfl
      have HT := Lib.hid (And.intro hfr (And.intro hb1 (And.intro hb2 ht)))
      clear hfr hb1 hb2 ht
      by_cases hlt : j < l1.length
      · have hlt2 : j < l2.length := by have := HL.out; omega
        obtain ⟨p, hp⟩ : ∃ p, l1[j]? = some p := ⟨_, List.getElem?_eq_getElem hlt⟩
        obtain ⟨q, hq⟩ : ∃ q, l2[j]? = some q := ⟨_, List.getElem?_eq_getElem hlt2⟩
        obtain ⟨a1, P1, s1, Q1, u1, rfl, k0, k1, k2, hby, hbd, hu1, hbl1⟩ := img_cells H1.out hp
        obtain ⟨a2, P2, s2, Q2, u2, rfl, m0, m1, m2, hby2, hbd2, hu2, hbl2⟩ := img_cells H2.out hq
        have fr := HT.out.1
        have k0' := frm_cell fr k0
        have k1' := frm_cell fr k1
        have k2' := frm_cell fr k2
        have m0' := frm_cell fr m0
        have m1' := frm_cell fr m1
        have m2' := frm_cell fr m2
        have op := O1.out p (List.mem_of_getElem? hp)
        have oq := O2.out q (List.mem_of_getElem? hq)
        have cv1 := (hby.frm fr).string (by omega)
        have cv2 := (hby2.frm fr).string (by omega)
        have hj1 : j < d1 := by omega
        have hj2 : j < d2 := by omega
        have KI : Hid (∀ n, Calls Tryz.prog 81 #[.slice Q1 p.bad.length u1, .slice Q2 q.bad.length u2] (wr.drewN n) fun e w' => e = .returned (.bool (decide (p.bad = q.bad))) ∧ ∃ q, w' = (wr.drewN n).drewN q) := fun n =>
          ints_calls (wr.drewN n) p.bad q.bad Q1 Q2 u1 u2 (fun j h => by obtain ⟨a, e, hc⟩ := hbd j h; exact ⟨a, e, frm_cell (fr.drewN n) hc⟩) (fun j h => by obtain ⟨a, e, hc⟩ := hbd2 j h; exact ⟨a, e, frm_cell (fr.drewN n) hc⟩) hbl1 hbl2 hu1 hu2
        have hne1 := fun b h => str_beq p.name q.name b h
        have hsne : strOfNums p.data = strOfNums q.data ↔ p.data = q.data := ⟨str_inj op.1 oq.1, fun e => by rw [e]⟩
        have hne2 := fun b h => str_beq (strOfNums p.data) (strOfNums q.data) b h
        have HPQ := Lib.hid (And.intro hp hq)
        have HSN := Lib.hid hsne
        clear k0 k1 k2 m0 m1 m2 hby hby2 hbd hbd2 op oq hp hq hsne fr
        have hfin : Hid (p ≠ q → r = false) := fun h => by
          have := mt HR.out.1 (by rintro rfl; exact h (Option.some.inj (HPQ.out.1.symm.trans HPQ.out.2)))
          simpa using this
        by_cases hn : p.name = q.name
        · have e1 := hne1 true (by simp [hn])
          by_cases hd : p.data = q.data
          · have e2 := hne2 true (by rw [HSN.out]; simp [hd])
            by_cases hb : p.bad = q.bad
            · rw [decide_eq_true hb] at KI
              have hpq : p = q := by cases p; cases q; simp_all
              have HE := Lib.hid hpq
              clear hn hd hb hne1 hne2 hpq
              go_wp2
              go_quiet ((go_at_call 81; exact Calls.quiet_of (KI.out _)))
              go_wp2
              refine ⟨⟨j + 1, by go_num, by omega, HT.out.1.drewN _, HT.out.2.1, HT.out.2.2.1, take_step HPQ.out.1 HPQ.out.2 HT.out.2.2.2 HE.out⟩, by simp [intOf]; omega⟩
            · rw [decide_eq_false hb] at KI
              have hrf := hfin.out (fun e => hb (by rw [e]))
              clear hn hd hb hne1 hne2
              go_wp2
              go_quiet ((go_at_call 81; exact Calls.quiet_of (KI.out _)))
              go_wp2
              go_ret
              exact ⟨by rw [hrf]; rfl, HT.out.1.drewN _⟩
          · have e2 := hne2 false (by rw [HSN.out]; simp [hd])
            have hrf := hfin.out (fun e => hd (by rw [e]))
            clear hn hd hne1 hne2
            go_wp2
            go_quiet ((go_at_call 81; exact Calls.quiet_of (KI.out _)))
            go_wp2
            go_ret
            exact ⟨by rw [hrf]; rfl, HT.out.1.drewN _⟩
        · have e1 := hne1 false (by simp [hn])
          have hrf := hfin.out (fun e => hn (by rw [e]))
          clear hn hne1 hne2
          go_wp2
          go_quiet ((go_at_call 81; exact Calls.quiet_of (KI.out _)))
          go_wp2
          go_ret
          exact ⟨by rw [hrf]; rfl, HT.out.1.drewN _⟩
      · obtain rfl : j = l1.length := by omega
        have hrt : r = true := HR.out.2 (take_all HL.out HT.out.2.2.2)
        have HRT := Lib.hid hrt
        clear hrt
        go_wp2
        go_ret
        exact ⟨by rw [HRT.out]; rfl, HT.out.1⟩
  · have hlb : (l1.length == l2.length) = false := by simpa using hl
    have hrf : r = false := by
      have := mt HR.out.1 (fun e => hl (by rw [e]))
      simpa using this
    clear hl
    rw [hrf]
    go_enter Tryz.func28, Tryz.ntmps28
    go_wp2
    go_ret
    exact ⟨rfl, ((Frm.refl _ _).alloc _).alloc _⟩
end Go.Proofs.YtglhedahannjiaaGreatDoor.Dw

/- Walks: bytes, operation; a script read; played, fresh. -/
namespace Go.Proofs.YtglhedahannjiaaGreatDoor.Dm
set_option linter.unusedVariables false
/-- How many bytes an image has, as far as they count. -/
def bytesTo : List Plain → Nat → Nat
  | [], n => n
  | p :: l, n => if n ≤ 1048576 then bytesTo l (n + p.data.length) else n
def imgBytes (l : List Plain) : Nat := bytesTo l l.length
theorem bytesTo_le : ∀ (l : List Plain) (n : Nat), n ≤ bytesTo l n
  | [], n => Nat.le_refl _
  | p :: l, n => by
    unfold bytesTo
    split
    · exact Nat.le_trans (Nat.le_add_right _ _) (bytesTo_le l _)
    · exact Nat.le_refl _
theorem bytesTo_mem : ∀ (l : List Plain) (n : Nat), bytesTo l n ≤ 1048576 → ∀ p, p ∈ l → n + p.data.length ≤ bytesTo l n
  | [], _, _, p, hp => by simp at hp
  | q :: l, n, h, p, hp => by
    have hn : n ≤ 1048576 := Nat.le_trans (bytesTo_le _ _) h
    unfold bytesTo at h ⊢
    rw [if_pos hn] at h ⊢
    rcases List.mem_cons.1 hp with rfl | hp
    · exact bytesTo_le l _
    · have := bytesTo_mem l _ h p hp
      omega
theorem imgBytes_len {l : List Plain} (h : imgBytes l ≤ 1048576) : l.length ≤ imgBytes l := bytesTo_le _ _
theorem imgBytes_mem {l : List Plain} (h : imgBytes l ≤ 1048576) : ∀ p, p ∈ l → p.data.length ≤ imgBytes l := fun p hp => by
  have := bytesTo_mem l l.length h p hp
  unfold imgBytes; omega
/-- A disk behind a script's calls, and how many bytes have been asked for. -/
def playStart (good : Bool) (l : List Plain) : Disk × Nat := if good = true ∧ imgBytes l ≤ 1048576 then (Disk.load l, imgBytes l) else (Disk.new, 0)
def playOne (s : Disk × Nat) (o : OpS) : Disk × Nat :=
  if o.kind = 2 ∧ 1048576 < s.2 + o.data.length then (s.1, s.2 + o.data.length) else
  if o.kind = 16 then (Disk.load (s.1.crash o.fs o.fn), s.2) else
  ((s.1.ask o).2, if o.kind = 2 then s.2 + o.data.length else s.2)
def play (s : Disk × Nat) (os : List OpS) : Disk × Nat := (os.take 4096).foldl playOne s
end Go.Proofs.YtglhedahannjiaaGreatDoor.Dm
namespace Go.Proofs.YtglhedahannjiaaGreatDoor.Dw
open Go.RowKit Go.ChangeMaps Go.Proofs.YtglhedahannjiaaGreatDoor.Mp Go.Proofs.YtglhedahannjiaaGreatDoor.Dm Go.Proofs.YtglhedahannjiaaGreatDoor.Da
open Go.Proofs.YtglhedahannjiaaGreatDoorW.PrintWords (Kd ReadsInt add_field)
set_option linter.unusedVariables false
set_option linter.unusedSimpArgs false
set_option linter.unusedSectionVars false
set_option maxHeartbeats 1000000 in
set_option maxRecDepth 100000 in
theorem bytes_calls (w : World) (v : Value) (l : List Plain) (h : ImgRd w v l) (hl : l.length ≤ 4611686018427387904) (hd : ∀ p, p ∈ l → p.data.length ≤ 140737488355328) :
    Calls Tryz.prog 22 #[v] w fun e w' => e = .returned (.int .i64 (imgBytes l : Nat)) ∧ Frm (fun _ => False) w w' := by
  obtain ⟨B1, d1, rfl, hd1, hC1⟩ := h
  have H1 := Lib.hid hC1
  have HD := Lib.hid hd
  clear hC1 hd
  go_enter Tryz.func22, Tryz.ntmps22
  go_wp2
  go_loopw [3, 4] (fun s v wr => ∃ j n, v = .int .i64 (j : Nat) ∧ s = .int .i64 (n : Nat) ∧ j ≤ l.length ∧ n ≤ 4611686018427387904 ∧ imgBytes l = bytesTo (l.drop j) n ∧ Frm (fun _ => False) w wr ∧ wr.heap[w.heap.size]? = some (.cells #[.slice B1 l.length d1] 36 (0, 0))) (fun _ v _ => l.length - (intOf v).toNat)
  case atStart => exact ⟨0, _, rfl, rfl, Nat.zero_le _, hl, rfl, (Frm.refl _ _).alloc _, blk_alloc⟩
  case round =>
    obtain ⟨j, n, rfl, rfl, hj, hn, hb, hfr, hb1⟩ := hrel
    have x1 : wr.cell? ⟨w.heap.size, 0, none⟩ = some (.slice B1 l.length d1) := cell_of hb1 rfl
    have HB := Lib.hid (And.intro hb (And.intro hfr hb1))
    clear hb hfr hb1
    by_cases hlt : j < l.length
    · by_cases hle : n ≤ 1048576
      · obtain ⟨p, hp⟩ : ∃ p, l[j]? = some p := ⟨_, List.getElem?_eq_getElem hlt⟩
        obtain ⟨a1, P1, s1, Q1, u1, rfl, k0, k1, k2, hby, hbd, hu1, hbl1⟩ := img_cells H1.out hp
        have k1' := frm_cell HB.out.2.1 k1
        have hdp := HD.out p (List.mem_of_getElem? hp)
        have hj1 : j < d1 := by omega
        have hstep : imgBytes l = bytesTo (l.drop (j + 1)) (n + p.data.length) := by
          rw [HB.out.1, List.drop_eq_getElem_cons hlt]
          have : l[j] = p := by rw [List.getElem?_eq_getElem hlt] at hp; exact Option.some.inj hp
          rw [this]
          unfold bytesTo
          rw [if_pos hle]
          cases l.drop (j + 1) <;> rfl
        have HST := Lib.hid hstep
        clear k0 k1 k2 hby hbd hp hstep
        go_wp2
        exact ⟨⟨j + 1, n + p.data.length, by go_num, by go_num, by omega, by omega, HST.out, HB.out.2.1, HB.out.2.2⟩, by simp [intOf]; omega⟩
      · have hend : imgBytes l = n := by
          rw [HB.out.1, List.drop_eq_getElem_cons hlt]
          unfold bytesTo
          rw [if_neg hle]
        have HE := Lib.hid hend
        clear hend
        go_wp2
        go_ret
        exact ⟨by rw [HE.out]; rfl, HB.out.2.1⟩
    · obtain rfl : j = l.length := by omega
      have hend : imgBytes l = n := by rw [HB.out.1, List.drop_length]; rfl
      have HE := Lib.hid hend
      clear hend
      go_wp2
      go_ret
      exact ⟨by rw [HE.out]; rfl, HB.out.2.1⟩
/-- A script's calls, in memory. -/
def failK : Kd (Int × Int) := Kd.pair (Kd.int .i64) (Kd.int .i64)
def fatesK : Kd (List Int × Int) := Kd.pair (Kd.slice 3 (Kd.int .i64)) (Kd.int .i64)
def opK : Kd OpS := Kd.iso (Kd.pair (Kd.int .i64) (Kd.pair Kd.string (Kd.pair Kd.string (Kd.pair (Kd.slice 5 (Kd.int .u8)) (Kd.pair (Kd.int .i64) (Kd.pair (Kd.slice 75 failK) (Kd.pair (Kd.int .i64) fatesK)))))))
  fun o => (o.kind, o.name, o.to_, o.data, o.n, o.fails, o.cut, o.fs, o.fn)
/-- One value's cells in a slice, wherever. -/
theorem C_int {w : World} {k : IntKind} {A : Option Addr} {xs : List Int} (h : (Kd.int k).C w A xs.length xs) : ∀ j (hj : j < xs.length), ∃ ad, A = some ad ∧ w.cell? (ad.add j) = some (.int k xs[j]) := by
  intro j hj
  obtain ⟨a, e, h⟩ := h.2.2 (by omega)
  obtain ⟨c, _, hk, hc⟩ := h j xs[j] (List.getElem?_eq_getElem hj)
  have hk : c = [.int k xs[j]] := hk
  subst hk
  refine ⟨a, e, ?_⟩
  have := hc 0 _ rfl
  have e3 : j * (Kd.int k).sz + 0 = j := by show j * 1 + 0 = j; omega
  rw [e3] at this
  exact this
theorem C_reads {w : World} {A : Option Addr} {xs : List Int} (h : (Kd.int .u8).C w A xs.length xs) : ReadsInt w .u8 A xs.length xs := Go.Proofs.YtglhedahannjiaaGreatDoorW.PrintWords.Kd.reads_of_C (enc := Value.int .u8) (d := (0 : Int)) (h1 := fun _ => rfl) h
theorem flat_fails : ∀ (fs : List (Int × Int)) (j : Nat), (fs.flatMap failCells)[2 * j]? = (fs[j]?).map (fun p => .int .i64 p.1) ∧ (fs.flatMap failCells)[2 * j + 1]? = (fs[j]?).map (fun p => .int .i64 p.2)
  | [], j => by simp
  | p :: l, 0 => by simp [failCells]
  | p :: l, j + 1 => by
    have := flat_fails l j
    simp only [List.flatMap_cons, failCells]
    rw [show 2 * (j + 1) = (2 * j) + 1 + 1 by omega]
    simpa using this
theorem C_fails {w : World} {A : Option Addr} {c : Nat} {fs : List (Int × Int)} (h : failK.C w A fs.length fs) : FailsAt w (.slice A fs.length c) fs := by
  refine ⟨A, c, rfl, fun i u hu => ?_⟩
  have hil : i < fs.length * 2 := by have := (List.getElem?_eq_some_iff.1 hu).1; rwa [fails_len] at this
  obtain ⟨a, e, h⟩ := h.2.2 (by omega)
  obtain ⟨j, hj⟩ : ∃ j, j = i / 2 := ⟨_, rfl⟩
  have hjl : j < fs.length := by omega
  obtain ⟨c', _, ⟨c1, c2, rfl, h1, h2⟩, hc⟩ := h j fs[j] (List.getElem?_eq_getElem hjl)
  have h1 : c1 = [.int .i64 fs[j].1] := h1
  have h2 : c2 = [.int .i64 fs[j].2] := h2
  subst h1
  subst h2
  obtain ⟨f1, f2⟩ := flat_fails fs j
  rw [List.getElem?_eq_getElem hjl] at f1 f2
  refine ⟨a, e, ?_⟩
  have hz : failK.sz = 2 := rfl
  rcases Nat.mod_two_eq_zero_or_one i with h0 | h0
  · have ei : i = 2 * j := by omega
    rw [ei, f1] at hu
    have := hc 0 _ rfl
    rw [hz] at this
    rw [ei, Nat.mul_comm, ← Option.some.inj hu]; exact this
  · have ei : i = 2 * j + 1 := by omega
    rw [ei, f2] at hu
    have := hc 1 _ rfl
    rw [hz] at this
    rw [ei, Nat.mul_comm, ← Option.some.inj hu]; exact this
theorem opK_in {w0 : World} {o : OpS} {cs : List Value} (h : opK.K w0 o cs) : ∃ v : Array Value, v.toList = cs ∧ OpIn w0 o (.agg v) ∧
    ∃ A1 c1 A2 c2 A3 c3, cs = [.int .i64 o.kind, .string o.name, .string o.to_, .slice A1 o.data.length c1, .int .i64 o.n, .slice A2 o.fails.length c2, .int .i64 o.cut, .slice A3 o.fs.length c3, .int .i64 o.fn] := by
  obtain ⟨x0, y0, rfl, h0, x1, y1, rfl, h1, x2, y2, rfl, h2, x3, y3, rfl, ⟨A1, c1, e3, l3, h3⟩, x4, y4, rfl, h4, x5, y5, rfl, ⟨A2, c2, e5, l5, h5⟩, x6, y6, rfl, h6, x7, y7, rfl, ⟨A3, c3, e7, l7, h7⟩, h8⟩ := h
  have h0 : x0 = [.int .i64 o.kind] := h0
  have h1 : x1 = [.string o.name] := h1
  have h2 : x2 = [.string o.to_] := h2
  have h4 : x4 = [.int .i64 o.n] := h4
  have h6 : x6 = [.int .i64 o.cut] := h6
  have h8 : y7 = [.int .i64 o.fn] := h8
  subst h0 h1 h2 h4 h6 h8 e3 e5 e7
  exact ⟨#[.int .i64 o.kind, .string o.name, .string o.to_, .slice A1 o.data.length c1, .int .i64 o.n, .slice A2 o.fails.length c2, .int .i64 o.cut, .slice A3 o.fs.length c3, .int .i64 o.fn], rfl,
    ⟨A1, c1, A2, c2, A3, c3, rfl, l3, C_reads h3, C_fails h5, C_int h7⟩, A1, c1, A2, c2, A3, c3, rfl⟩
end Go.Proofs.YtglhedahannjiaaGreatDoor.Dw

/- Walks: operation, fresh; a disk loaded of what a loss of power leaves. -/
namespace Go.Proofs.YtglhedahannjiaaGreatDoor.Dm
set_option linter.unusedVariables false
theorem crash_len {D : Disk} (h : Inv D) (fs : List Int) (k : Int) {m : Nat} (hm : ∀ f, f ∈ D.files → f.seen.length ≤ m) : (D.crash fs k).length ≤ D.files.length ∧ ∀ p, p ∈ D.crash fs k → p.data.length ≤ m := by
  obtain ⟨c, _, e⟩ := crash_eq h fs k
  have hns := h.leftNs k.toNat
  constructor
  · rw [e, List.length_map, (inOrder_perm _).length_eq]
    exact hns.len_le
  · intro p hp
    rw [e] at hp
    obtain ⟨q, hq, rfl⟩ := List.mem_map.1 hp
    have hq2 := (inOrder_perm _).mem_iff.1 hq
    have h1 := (fated_ok (h.fileOk q.2) (fatesFrom fs (c q) (waitList (D.file q.2)).length)).2
    have h2 : (D.file q.2).seen.length ≤ m := by
      have hlt := hns.lt q hq2
      unfold Disk.file
      rw [List.getElem?_eq_getElem hlt]
      exact hm _ (List.getElem_mem hlt)
    exact Nat.le_trans h1 h2
def Disk.fresh (D : Disk) : Disk := if D.off = true then Disk.load (D.crash [] 0) else D.arm [] 0
theorem good_size {l : List Plain} (h : Good l) : ∀ p, p ∈ l → p.name.size ≤ 9223372036854775807 := fun p hp => by
  have := h.names p hp
  unfold good at this
  simp only [Bool.and_eq_true, decide_eq_true_eq] at this
  omega
end Go.Proofs.YtglhedahannjiaaGreatDoor.Dm
namespace Go.Proofs.YtglhedahannjiaaGreatDoor.Dw
open Go.RowKit Go.ChangeMaps Go.Proofs.YtglhedahannjiaaGreatDoor.Mp Go.Proofs.YtglhedahannjiaaGreatDoor.Dm Go.Proofs.YtglhedahannjiaaGreatDoor.Da
open Go.Proofs.YtglhedahannjiaaGreatDoorW.PrintWords (Kd ReadsInt add_field)
set_option linter.unusedVariables false
set_option linter.unusedSimpArgs false
set_option linter.unusedSectionVars false
theorem l7_10 : (10 : Nat) ∈ l7 := by decide
/-- A disk of what a loss of power leaves. -/
theorem reload {B : Nat} {w w1 : World} {b : Nat} {lab : Nat → Option Lb} {eb : Nat → Addr} {n m : Nat} {D : Disk} (h : Live B w b lab eb l7 n m D) (hB : B ≤ w.heap.size) (hf : Frm (fun _ => False) w w1) (fs : List Int) (k : Int) (v : Value) (hv : ImgRd w1 v (D.crash fs k)) :
    Calls Tryz.prog 19 #[v] w1 fun e w' => ∃ b' lab', e = .returned (.tuple #[dptr b', .nilIface]) ∧ Live B w' b' lab' eb l7 n m (Disk.load (D.crash fs k)) ∧ Frm (fun _ => False) w1 w' ∧ ∀ k, Ft lab' k → w1.heap.size ≤ k := by
  have hc := crash_img h.inv fs k
  obtain ⟨c1, c2⟩ := crash_len h.inv fs k h.sz.len
  refine (load_live (h.frm hf).ers (Nat.le_trans hB hf.size) l7_10 v _ hv (Nat.le_trans c1 h.sz.files) c2 h.fit hc.bytes (good_size hc.good)).mono ?_
  rintro e w' ⟨hfr, ⟨_, b', lab', e1, e2, e3⟩ | ⟨hng, _⟩⟩
  · exact ⟨b', lab', e1, e2, hfr, e3⟩
  · exact absurd hc.good hng
theorem fails_none (w : World) : FailsAt w (.slice none 0 0) [] := ⟨none, 0, rfl, fun j u hu => by simp at hu⟩
set_option maxRecDepth 100000 in
theorem fresh_calls {B : Nat} {w : World} {b : Nat} {lab : Nat → Option Lb} {eb : Nat → Addr} {n m : Nat} {D : Disk} (h : Live B w b lab eb l7 n m D) (hB : B ≤ w.heap.size) :
    Calls Tryz.prog 37 #[dptr b] w fun e w' => ∃ b', e = .returned (dptr b') ∧ Next B w lab w' b' eb l7 n m D.fresh := by
  have KD := Lib.hid h.down
  have H := Lib.hid h
  cases hoff : D.off with
  | true =>
    have hr : D.fresh = Disk.load (D.crash [] 0) := by unfold Disk.fresh; rw [if_pos hoff]
    rw [hr]
    rw [hoff] at KD
    have KC := Lib.hid (h.crash [] 0 none 0 (fun j hj => absurd hj (by simp)) (by simp))
    clear h hr hoff
    unfold dptr at KD KC ⊢
    go_enter Tryz.func37, Tryz.ntmps37
    go_wp2_with (first
      | (go_at_call 35; refine KD.out.mono ?_; rintro e w' ⟨rfl, rfl⟩)
      | (go_at_call 17; refine KC.out.mono ?_; rintro e w1 ⟨v, rfl, hv, hf1⟩; have KL := Lib.hid (reload H.out hB hf1 [] 0 v hv.rd))
      | (go_at_call 19; refine KL.out.mono ?_; rintro e w2 ⟨b', lab', rfl, hl, hf2, hlab⟩; unfold dptr; have HL := Lib.hid (And.intro hl (And.intro hf2 hlab)); clear hl hf2 hlab))
    go_ret
    exact ⟨b', rfl, lab', HL.out.1, (hf1.trans HL.out.2.1 (fun _ _ h => h)).mono (fun _ _ h => h.elim), fun k hk hl => absurd (HL.out.2.2 k hl) (by have := hf1.size; omega)⟩
  | false =>
    have hr : D.fresh = D.arm [] 0 := by unfold Disk.fresh; rw [if_neg (by rw [hoff]; simp)]
    rw [hr]
    rw [hoff] at KD
    have KA := Lib.hid (h.arm (.slice none 0 0) [] 0 (fails_none w) (by simp))
    clear h hr hoff
    unfold dptr at KD KA ⊢
    go_enter Tryz.func37, Tryz.ntmps37
    go_wp2_with (first
      | (go_at_call 35; refine KD.out.mono ?_; rintro e w' ⟨rfl, rfl⟩)
      | (go_at_call 42; refine KA.out.mono ?_; rintro e w1 ⟨rfl, hx⟩; have HXX := Lib.hid hx; clear hx))
    go_ret
    exact ⟨b, rfl, HXX.out⟩
end Go.Proofs.YtglhedahannjiaaGreatDoor.Dw
