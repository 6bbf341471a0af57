/- A part of the proof of segmentMemoryUpto_holds: Nm, Ro, St. No condition. -/
import Derived.Ground.NamesProg
import Derived.Ground.Names7Prog
import Derived.Shelf.Strings.Repeat
import Derived.Shelf.Spec.TrailingZeros
import Derived.Lib.ConvBytes
import Derived.Shelf.Strings.Trim
import Derived.Shelf.Slices.Turned
import Derived.Test.YtkmmlfphcfcbgaaGreatDoorC08

/- Walks: the name of a segment. -/
namespace Go.Proofs.YtkmmlfphcfcbgaaGreatDoor.Dw
open Go.RowKit Go.ChangeMaps Go.Proofs.YtkmmlfphcfcbgaaGreatDoor.Mp Go.Proofs.YtkmmlfphcfcbgaaGreatDoor.Dm Go.Proofs.YtkmmlfphcfcbgaaGreatDoor.Da Go.Shelf
open Go.Proofs.YtkmmlfphcfcbgaaGreatDoorW.PrintWords (ReadsInt string_of_reads)
set_option linter.unusedVariables false
set_option linter.unusedSimpArgs false
set_option linter.unusedSectionVars false
theorem repeat_X : Builder.Extra Tryz.prog repeat_lays_ren where
  sizeBuilder := by kernel_rfl
  liesBuilder := by kernel_rfl
  t5 := Tryz.underlying5
  a5 := Tryz.isAgg5
  z5 := Tryz.sizeOf5
  v5 := Tryz.zeroValue5
  infoByte := by kernel_rfl
  cellsByte := by kernel_rfl
  sizeByte := by kernel_rfl
  neB5 := by decide
theorem repeat_zeros (c : Nat) (w : World) (hc : c ≤ 16) :
    Calls Tryz.prog 55 #[.string ⟨#[48]⟩, .int .i64 c] w fun e w' => e = .returned (.string (strOfNums (List.replicate c 48))) ∧ Frm (fun _ => False) w w' := by
  have hrep : ∀ n, (Lib.repeatL [48] n) = (List.replicate n (48 : Int)).map fun n => UInt8.ofNat n.toNat := by
    intro n
    induction n with
    | zero => rfl
    | succ n ih => rw [Lib.repeatL, ih, List.replicate_succ]; rfl
  by_cases h0 : c = 0
  · subst h0
    refine (Any.strings_Repeat_zero repeat_lays ⟨#[48]⟩ w).mono ?_
    rintro e w' ⟨rfl, rfl⟩
    exact ⟨rfl, Frm.refl _ _⟩
  · by_cases h1 : c = 1
    · subst h1
      refine (Any.strings_Repeat_one repeat_lays ⟨#[48]⟩ w).mono ?_
      rintro e w' ⟨rfl, rfl⟩
      exact ⟨rfl, Frm.refl _ _⟩
    · refine (Any.strings_Repeat_main repeat_lays repeat_X ⟨#[48]⟩ c w (by omega) (by omega) (by show 1 * c ≤ _; omega) (by decide)).mono ?_
      rintro e w' ⟨rfl, hb⟩
      refine ⟨?_, Frm.of_below hb _⟩
      show Ending.returned (.string ⟨(Lib.repeatL [48] c).toArray⟩) = _
      rw [hrep]
      rfl
theorem trailing16 (w : World) (hT : TabAt 18 Lib.deBruijn64tab w) :
    Calls Tryz.prog 195 #[.int .u64 16] w fun e w' => e = .returned (.int .i64 4) ∧ w' = w := by
  refine (Any7.bits_TrailingZeros tz_lays 16 (by omega) w fun _ => hT).mono ?_
  rintro e w' ⟨rfl, rfl⟩
  exact ⟨by have : Lib.ctz 64 16 = 4 := by decide
            rw [this]; rfl, rfl⟩
theorem pow2_16 (w : World) : Calls Tryz.prog 194 #[.int .i64 16] w fun e w' => e = .returned (.bool true) ∧ w' = w := by
  go_enter Tryz.func194, Tryz.ntmps194
  go_wp2
  go_ret
  exact ⟨rfl, rfl⟩
def Buf (w0 : World) (wr : World) (i : Nat) (acc : List Int) : Prop :=
  ∃ cur : Array Value, wr.heap[w0.heap.size]? = some (.cells cur 270 (0, 0)) ∧ cur.size = 65 ∧ i + acc.length = 65 ∧ ∀ j, j < acc.length → cur[i + j]? = some (.int .u8 (acc.getD j 0))
theorem Buf.put {w0 wr : World} {m : Nat} {acc : List Int} (h : Buf w0 wr (m + 1) acc) {c : Int} {v : Value} (hv : v = .int .u8 c) : Buf w0 (wr.setCell ⟨w0.heap.size, m, none⟩ v) m (c :: acc) := by
  obtain ⟨cur, hb, hs, hl, hc⟩ := h
  subst hv
  refine ⟨_, blk_set hb, by simp [hs], by simp; omega, fun j hj => ?_⟩
  rcases j with _ | j
  · simp [Array.getElem?_setIfInBounds, hs]; omega
  · have := hc j (by simpa using hj)
    rw [Array.getElem?_setIfInBounds, if_neg (by omega)]
    rw [show m + (j + 1) = m + 1 + j from by omega, this]
    simp
theorem Buf.reads {w0 wr : World} {m : Nat} {acc : List Int} (h : Buf w0 wr m acc) : ReadsInt wr .u8 (some ⟨w0.heap.size, m, none⟩) (65 - m) acc := by
  obtain ⟨cur, hb, hs, hl, hc⟩ := h
  refine reads_mk (by omega) (fun i hi => cell_of hb (hc i (by omega))) (by omega)
theorem hex_at : ∀ (z : Nat) (h : z < 16) (hp : z < (⟨#[48, 49, 50, 51, 52, 53, 54, 55, 56, 57, 97, 98, 99, 100, 101, 102, 103, 104, 105, 106, 107, 108, 109, 110, 111, 112, 113, 114, 115, 116, 117, 118, 119, 120, 121, 122]⟩ : ByteArray).size), Value.int .u8 (((⟨#[48, 49, 50, 51, 52, 53, 54, 55, 56, 57, 97, 98, 99, 100, 101, 102, 103, 104, 105, 106, 107, 108, 109, 110, 111, 112, 113, 114, 115, 116, 117, 118, 119, 120, 121, 122]⟩ : ByteArray)[z]'hp).toNat : Int) = .int .u8 (Sg.hexd z) := by
  intro z h hp
  match z, h with
  | 0, _ | 1, _ | 2, _ | 3, _ | 4, _ | 5, _ | 6, _ | 7, _ | 8, _ | 9, _ | 10, _ | 11, _ | 12, _ | 13, _ | 14, _ | 15, _ => rfl
  | n + 16, h => omega
theorem TabAt.frm {g : Nat} {tab : List Nat} {w w' : World} {F : Nat → Prop} (h : TabAt g tab w) (hf : Frm F w w') (hF : ¬ F g) : TabAt g tab w' := fun j hj => by
  have h1 := h j hj
  rw [← h1]
  exact hf.cell (World.block_lt_of_cell? _ _ h1) hF
set_option maxHeartbeats 1000000 in
set_option maxRecDepth 100000 in
theorem formatBits_calls (w : World) (x : Nat) (hx : x < 18446744073709551616) (hT : TabAt 18 Lib.deBruijn64tab w) :
    Calls Tryz.prog 157 #[.slice none 0 0, .int .u64 x, .int .i64 16, .bool false, .bool false] w fun e w' => e = .returned (.tuple #[.slice none 0 0, .string (strOfNums (Sg.least 16 x))]) ∧ Frm (fun _ => False) w w' := by
  have HT := Lib.hid hT
  clear hT
  have KP := fun W => pow2_16 W
  go_enter Tryz.func157, Tryz.ntmps157
  go_wp2_with (first
    | (go_at_call 194; (with_reducible refine (KP _).mono ?_); rintro e w1 ⟨rfl, rfl⟩)
    | (go_at_call 195; (with_reducible refine (trailing16 _ ?_).mono ?_); (exact TabAt.frm HT.out ((Frm.refl (fun _ => False) w).alloc _) (fun h => h)); rintro e w1 ⟨rfl, rfl⟩))
  go_loopw [1, 13] (fun u iv wr => ∃ acc i k y, u = .int .u64 (y : Nat) ∧ iv = .int .i64 (i : Nat) ∧ Buf w wr i acc ∧ k + acc.length = 16 ∧ 1 ≤ k ∧ y < 16 ^ k ∧ Sg.least 16 x = Sg.least k y ++ acc ∧ Frm (fun _ => False) w wr) (fun u _ _ => (intOf u).toNat)
  case atStart =>
    refine ⟨[], 65, 16, x, rfl, rfl, ⟨_, blk_alloc, rfl, rfl, fun j hj => absurd hj (Nat.not_lt_zero _)⟩, rfl, by omega, by omega, by simp, (Frm.refl _ _).alloc _⟩
  case round =>
    obtain ⟨acc, i, k, y, rfl, rfl, ⟨cur, hb, hcs, hia, hacc⟩, hk, hk1, hy, hlst, hfr⟩ := hrel
    have hyb : y < 18446744073709551616 := Nat.lt_of_lt_of_le hy (by
      have : 16 ^ k ≤ 16 ^ 16 := Nat.pow_le_pow_right (by omega) (by omega)
      omega)
    obtain ⟨m, rfl⟩ : ∃ m, i = m + 1 := ⟨i - 1, by omega⟩
    have hm : m < 65 := by omega
    have hcell : ∃ u, wr.cell? ⟨w.heap.size, m, none⟩ = some u := ⟨cur[m], cell_of hb (by rw [Array.getElem?_eq_getElem])⟩
    obtain ⟨u0, hcell⟩ := hcell
    have hfz : wr.frozen? ⟨w.heap.size, m, none⟩ = false := frozen_of hb
    have HB := Lib.hid (And.intro hb (And.intro hcs (And.intro hia (And.intro hacc (And.intro hk (And.intro hlst hfr))))))
    clear hb hcs hia hacc hk hlst hfr
    by_cases h16 : 16 ≤ y
    · have hand : bits .and .u64 (y : Int) 15 = ((y % 16 : Nat) : Int) := by
        have := u64_and_nat y 15 hyb (by omega)
        rw [nat_mask4] at this
        exact this
      have hy16 : y % 16 < 16 := Nat.mod_lt _ (by omega)
      have HY := Lib.hid hy
      clear hy
      go_wp2
      obtain ⟨hb, hcs, hia, hacc, hk, hlst, hfr⟩ := HB.out
      obtain ⟨k, rfl⟩ : ∃ q, k = q + 1 := ⟨k - 1, by omega⟩
      have hy2 : y / 16 < 16 ^ k := by
        have := HY.out
        rw [Nat.pow_succ, Nat.mul_comm] at this
        exact Nat.div_lt_of_lt_mul this
      have hk0 : 1 ≤ k := by
        rcases k with _ | k
        · simp at hy2; omega
        · omega
      refine ⟨⟨_, m, k, y / 16, by simp, rfl, Buf.put ⟨cur, hb, hcs, hia, hacc⟩ (hex_at _ hy16 _), by simp; omega, hk0, hy2, ?_, hfr.setCell _ _ (fun h => absurd h (Nat.lt_irrefl _))⟩, by simp [intOf]; omega⟩
      rw [hlst, Sg.least, if_neg (by omega), List.append_assoc]
      rfl
    · have HY := Lib.hid hy
      clear hy
      have hm2 : (m : Int) ≤ 65 := by omega
      have hm3 : m ≤ 65 := by omega
      go_upto_region 30 with (fail)
      all_goals try (exfalso; omega)
      obtain ⟨hb, hcs, hia, hacc, hk, hlst, hfr⟩ := HB.out
      have HW := Lib.hid (And.intro (Buf.put (m := m) ⟨cur, hb, hcs, hia, hacc⟩ (hex_at y (by omega) (by show y < 36; omega))) (hfr.setCell ⟨w.heap.size, m, none⟩ (Value.int .u8 (((⟨#[48, 49, 50, 51, 52, 53, 54, 55, 56, 57, 97, 98, 99, 100, 101, 102, 103, 104, 105, 106, 107, 108, 109, 110, 111, 112, 113, 114, 115, 116, 117, 118, 119, 120, 121, 122]⟩ : ByteArray)[y]'(by show y < 36; omega)).toNat : Int)) (fun h => absurd h (Nat.lt_irrefl _))))
      generalize wr.setCell _ _ = w4 at HW ⊢
      have hlst2 : Sg.least 16 x = Sg.hexd y :: acc := by
        obtain ⟨k, rfl⟩ : ∃ q, k = q + 1 := ⟨k - 1, by omega⟩
        rw [hlst, Sg.least, if_pos (by omega)]
        rfl
      have H2 := Lib.hid hlst2
      have cv := string_of_reads (P := Tryz.prog) (w := w4) (c := 65 - m) Tryz.underlying36 Tryz.underlying5 Tryz.underlying9 (HW.out.1.reads)
      clear hb hcs hia hacc hk hlst hfr hlst2 hcell hfz
      go_wp2
      go_ret2
      exact ⟨by rw [H2.out]; rfl, HW.out.2⟩
theorem formatUint_calls (w : World) (x : Nat) (hx : x < 18446744073709551616) (hT : TabAt 18 Lib.deBruijn64tab w) :
    Calls Tryz.prog 107 #[.int .u64 x, .int .i64 16] w fun e w' => e = .returned (.string (strOfNums (Sg.least 16 x))) ∧ Frm (fun _ => False) w w' := by
  have K := Lib.hid (formatBits_calls w x hx hT)
  clear hT
  go_enter Tryz.func107, Tryz.ntmps107
  go_wp2_with (go_at_call 157; (with_reducible refine K.out.mono ?_); rintro e w1 ⟨rfl, hf⟩; have H1 := Lib.hid hf; clear hf)
  go_ret
  exact ⟨rfl, H1.out⟩
theorem formatUint16 (w : World) (x : Nat) (hx : x < 18446744073709551616) (hT : TabAt 18 Lib.deBruijn64tab w) :
    Calls Tryz.prog 54 #[.int .u64 x, .int .i64 16] w fun e w' => e = .returned (.string (strOfNums (Sg.least 16 x))) ∧ Frm (fun _ => False) w w' := by
  have K := Lib.hid (formatUint_calls w x hx hT)
  clear hT
  go_enter Tryz.func54, Tryz.ntmps54
  go_wp2_with (go_at_call 107; (with_reducible refine K.out.mono ?_); rintro e w1 ⟨rfl, hf⟩; have H1 := Lib.hid hf; clear hf)
  go_ret
  exact ⟨rfl, H1.out⟩
theorem str_app (a b : List Int) : strOfNums a ++ strOfNums b = strOfNums (a ++ b) := by
  apply ByteArray.ext
  simp [strOfNums]
/-- A segment's name. -/
def nmOf (x : Nat) : ByteArray := strOfNums (Sg.nameOf x)
theorem nmOf_size (x : Nat) : (nmOf x).size = 20 := by rw [nmOf, strOfNums_size, Sg.nameOf, List.length_append, Sg.digs_length]; rfl
set_option maxHeartbeats 1000000 in
theorem name_calls (w : World) (x : Nat) (hx : x < 18446744073709551616) (hT : TabAt 18 Lib.deBruijn64tab w) :
    Calls Tryz.prog 44 #[.int .u64 x] w fun e w' => e = .returned (.string (nmOf x)) ∧ Frm (fun _ => False) w w' := by
  obtain ⟨h16, hn⟩ := Sg.nameOf_least x hx
  have K := Lib.hid (formatUint16 w x hx hT)
  have HN := Lib.hid hn
  obtain ⟨s, hs⟩ : ∃ s, s = strOfNums (Sg.least 16 x) := ⟨_, rfl⟩
  have hsz : s.size = (Sg.least 16 x).length := by rw [hs, strOfNums_size]
  obtain ⟨c, hc⟩ : ∃ c, c + s.size = 16 := ⟨16 - s.size, by omega⟩
  have hcs : Hid (c = 16 - (Sg.least 16 x).length ∧ s = strOfNums (Sg.least 16 x)) := Lib.hid ⟨by omega, hs⟩
  have hsub : (16 : Int) - (s.size : Int) = (c : Int) := by omega
  have KR := fun W => repeat_zeros c W (by omega)
  rw [← hs] at K
  have hs16 : s.size ≤ 16 := by omega
  have hzs : (strOfNums (List.replicate c 48)).size = c := by rw [strOfNums_size, List.length_replicate]
  clear hT hn hs hsz hc h16
  go_enter Tryz.func44, Tryz.ntmps44
  go_wp2_with (first
    | (go_at_call 54; (with_reducible refine K.out.mono ?_); rintro e w1 ⟨rfl, hf⟩; have H1 := Lib.hid hf; clear hf)
    | (go_at_call 55; (with_reducible refine (KR _).mono ?_); rintro e w2 ⟨rfl, hf⟩; have H2 := Lib.hid (H1.out.trans hf (fun _ _ h => h)); clear hf))
  go_ret
  refine ⟨?_, H2.out⟩
  have e : (⟨#[108, 111, 103, 46]⟩ : ByteArray) ++ strOfNums (List.replicate c 48) ++ s = nmOf x := by
    rw [hcs.out.2, show (⟨#[108, 111, 103, 46]⟩ : ByteArray) = strOfNums Sg.logB from rfl, str_app, str_app, List.append_assoc, hcs.out.1, HN.out]
    rfl
  exact congrArg (fun z => Ending.returned (Value.string z)) e
end Go.Proofs.YtkmmlfphcfcbgaaGreatDoor.Dw

/- Records in new memory, each its own. -/
namespace Go.Proofs.YtkmmlfphcfcbgaaGreatDoor.Dw
open Go.RowKit Go.ChangeMaps Go.Proofs.YtkmmlfphcfcbgaaGreatDoor.Mp Go.Proofs.YtkmmlfphcfcbgaaGreatDoor.Dm Go.Proofs.YtkmmlfphcfcbgaaGreatDoor.Da Go.Lib
open Go.Proofs.YtkmmlfphcfcbgaaGreatDoorW.PrintWords (Kd ReadsInt own_weaken string_of_reads)
set_option linter.unusedVariables false
set_option linter.unusedSimpArgs false
set_option linter.unusedSectionVars false
/-- One record: bytes at the front of a block that is marked behind its end. -/
def Rec1 (w : World) (base g : Nat) (u : Value) (xs : List Int) : Prop :=
  ∃ (cap : Nat) (cs : Array Value), u = .slice (some ⟨g, 0, none⟩) xs.length cap ∧ base ≤ g ∧ xs.length ≤ cap ∧ cap ≤ 9223372036854775807 ∧ cs.size = cap ∧ w.heap[g]? = some (.cells cs 5 (cap, cap + 1)) ∧ ∀ j, j < xs.length → cs[j]? = some (.int .u8 (xs.getD j 0))
/-- Records: a row of slices of one's own, and in it records in blocks of their own. -/
def RecsOwn (w : World) (base : Nat) (v : Value) (rs : List Sg.Bytes) : Prop :=
  ∃ (us : List Value) (gs : List Nat), w.ownsRow base 36 1 v rs.length us ∧ gs.length = rs.length ∧ gs.Nodup ∧ ∀ j (h : j < rs.length), ∃ u g, us[j]? = some u ∧ gs[j]? = some g ∧ Rec1 w base g u rs[j]
theorem RecsOwn.nil (w : World) (base : Nat) : RecsOwn w base (.slice none 0 0) [] := ⟨[], [], World.ownsRow_nil w base _ 1, rfl, List.nodup_nil, fun j h => absurd h (by simp)⟩
theorem Rec1.keep {w w' : World} {base g : Nat} {u : Value} {xs : List Int} (h : Rec1 w base g u xs) (hk : w'.heap[g]? = w.heap[g]?) : Rec1 w' base g u xs := by
  obtain ⟨cap, cs, h1, h2, h3, h4, h5, h6, h7⟩ := h
  exact ⟨cap, cs, h1, h2, h3, h4, h5, hk.trans h6, h7⟩
theorem Rec1.lt {w : World} {base g : Nat} {u : Value} {xs : List Int} (h : Rec1 w base g u xs) : g < w.heap.size := by
  obtain ⟨cap, cs, h1, h2, h3, h4, h5, h6, h7⟩ := h
  exact Da.blk_lt h6
theorem Rec1.weaken {w : World} {base b g : Nat} {u : Value} {xs : List Int} (h : Rec1 w base g u xs) (hb : b ≤ base) : Rec1 w b g u xs := by
  obtain ⟨cap, cs, h1, h2, h3⟩ := h
  exact ⟨cap, cs, h1, Nat.le_trans hb h2, h3⟩
/-- What turns no block of bytes and no row of slices. -/
theorem RecsOwn.frmT {w w' : World} {base : Nat} {v : Value} {rs : List Sg.Bytes} {F : Nat → Prop} (h : RecsOwn w base v rs) (hf : Frm F w w') (hF : ∀ k, k < w.heap.size → F k → ∀ cs t fr, w.heap[k]? = some (.cells cs t fr) → t ≠ 5 ∧ t ≠ 36) : RecsOwn w' base v rs := by
  obtain ⟨us, gs, h1, h2, h3, h4⟩ := h
  refine ⟨us, gs, ?_, h2, h3, fun j hj => ?_⟩
  · refine ownsRow.same h1 fun g hg => hf.block g (own_low h1 hg).2 fun hk => ?_
    rcases h1.2 with ⟨hv, _⟩ | ⟨g', cap, cur, hv, _, hh, _⟩
    · rw [hv] at hg; cases hg
    · rw [hv] at hg
      obtain rfl : g' = g := by simpa [Value.ownBlock] using hg
      exact (hF g' (Da.blk_lt hh) hk _ _ _ hh).2 rfl
  · obtain ⟨u, g, h5, h6, h7⟩ := h4 j hj
    refine ⟨u, g, h5, h6, h7.keep (hf.block g h7.lt fun hk => ?_)⟩
    obtain ⟨cap, cs, _, _, _, _, _, hh, _⟩ := h7
    exact (hF g (Da.blk_lt hh) hk _ _ _ hh).1 rfl
theorem RecsOwn.frm {w w' : World} {base : Nat} {v : Value} {rs : List Sg.Bytes} (h : RecsOwn w base v rs) (hf : Frm (fun _ => False) w w') : RecsOwn w' base v rs := h.frmT hf (fun _ _ h => h.elim)
/-- .. nor below its base. -/
theorem RecsOwn.low {w w' : World} {base : Nat} {v : Value} {rs : List Sg.Bytes} {F : Nat → Prop} (h : RecsOwn w base v rs) (hf : Frm F w w') (hF : ∀ k, k < w.heap.size → F k → k < base) : RecsOwn w' base v rs := by
  obtain ⟨us, gs, h1, h2, h3, h4⟩ := h
  refine ⟨us, gs, ownsRow.same h1 fun g hg => hf.block g (own_low h1 hg).2 fun hk => ?_, h2, h3, fun j hj => ?_⟩
  · have := (own_low h1 hg).1
    have := hF g (own_low h1 hg).2 hk
    omega
  · obtain ⟨u, g, h5, h6, h7⟩ := h4 j hj
    refine ⟨u, g, h5, h6, h7.keep (hf.block g h7.lt fun hk => ?_)⟩
    have := hF g h7.lt hk
    obtain ⟨cap, cs, _, hb, _⟩ := h7
    omega
theorem RecsOwn.weaken {w : World} {base b : Nat} {v : Value} {rs : List Sg.Bytes} (h : RecsOwn w base v rs) (hb : b ≤ base) : RecsOwn w b v rs := by
  obtain ⟨us, gs, h1, h2, h3, h4⟩ := h
  exact ⟨us, gs, own_weaken h1 hb, h2, h3, fun j hj => by obtain ⟨u, g, h5, h6, h7⟩ := h4 j hj; exact ⟨u, g, h5, h6, h7.weaken hb⟩⟩
theorem RecsOwn.form {w : World} {base : Nat} {v : Value} {rs : List Sg.Bytes} (h : RecsOwn w base v rs) : ∃ p c, v = .slice p rs.length c ∧ rs.length ≤ c := by
  obtain ⟨us, gs, h1, _⟩ := h
  rcases h1.2 with ⟨hv, h0⟩ | ⟨g, cap, cur, hv, _, _, h3, _⟩
  · exact ⟨none, 0, by rw [hv, h0], by omega⟩
  · exact ⟨_, _, hv, h3⟩
theorem Rec1.reads {w : World} {base g : Nat} {xs : List Int} {u : Value} (h : Rec1 w base g u xs) : ∃ cap, u = .slice (some ⟨g, 0, none⟩) xs.length cap ∧ xs.length ≤ cap ∧ ReadsInt w .u8 (some ⟨g, 0, none⟩) xs.length xs := by
  obtain ⟨cap, cs, h1, h2, h3, h4, h5, h6, h7⟩ := h
  refine ⟨cap, h1, h3, reads_mk (by omega) fun i hi => ?_⟩
  simp only [World.cell?, h6]
  simpa using h7 i hi
theorem RecsOwn.recsAt {w : World} {base : Nat} {p : Option Addr} {c : Nat} {rs : List Sg.Bytes} {n : Nat} (h : RecsOwn w base (.slice p n c) rs) : RecsAt w p rs := by
  intro j hj
  obtain ⟨us, gs, h1, h2, h3, h4⟩ := h
  obtain ⟨u, g, h5, h6, h7⟩ := h4 j hj
  obtain ⟨cap, rfl, h8, h9⟩ := h7.reads
  rcases h1.2 with ⟨hv, h0⟩ | ⟨g', cap', cur, hv, r1, r2, r3, r4, r5, r6⟩
  · omega
  · simp only [Value.slice.injEq] at hv
    obtain ⟨rfl, _, rfl⟩ := hv
    refine ⟨_, _, cap, rfl, ?_, h8, h9⟩
    rw [addO, Nat.zero_add]
    refine cell_of r2 ?_
    have e : (cur.toList.take (rs.length * 1))[j]? = us[j]? := by rw [r6]
    rw [List.getElem?_take_of_lt (by omega), Array.getElem?_toList] at e
    rw [e]; exact h5
/-- One record more: the row has grown, the record is new. -/
theorem RecsOwn.snoc {w w' : World} {base g : Nat} {v v' u : Value} {rs : List Sg.Bytes} {us : List Value} {gs : List Nat} {r : Sg.Bytes} (h1 : w.ownsRow base 36 1 v rs.length us) (h2 : gs.length = rs.length) (h3 : gs.Nodup) (h4 : ∀ j (h : j < rs.length), ∃ u g, us[j]? = some u ∧ gs[j]? = some g ∧ Rec1 w base g u rs[j])
    (hrow : w'.ownsRow base 36 1 v' (rs.length + 1) (us ++ [u])) (hk : ∀ k, k < w.heap.size → some k ≠ v.ownBlock → w'.heap[k]? = w.heap[k]?) (hr : Rec1 w' base g u r) (hg : ∀ j (h : j < rs.length), gs[j]? ≠ some g) : RecsOwn w' base v' (rs ++ [r]) := by
  have hul : us.length = rs.length := by have := h1.1; omega
  refine ⟨us ++ [u], gs ++ [g], by rw [List.length_append]; exact hrow, by simp [h2], ?_, fun j hj => ?_⟩
  · rw [List.nodup_append]
    refine ⟨h3, by simp, fun a ha b hb e => ?_⟩
    obtain ⟨i, hi, rfl⟩ := List.getElem_of_mem ha
    have : b = g := by simpa using hb
    exact hg i (by omega) (by rw [List.getElem?_eq_getElem hi, e, this])
  · rw [List.length_append, List.length_singleton] at hj
    rcases Nat.lt_or_ge j rs.length with hlt | hge
    · obtain ⟨u', g', h5, h6, h7⟩ := h4 j hlt
      refine ⟨u', g', by rw [List.getElem?_append_left (by omega)]; exact h5, by rw [List.getElem?_append_left (by omega)]; exact h6, ?_⟩
      rw [List.getElem_append_left hlt]
      refine h7.keep (hk g' h7.lt fun e => ?_)
      obtain ⟨cap, cs, _, _, _, _, _, hh, _⟩ := h7
      rcases h1.2 with ⟨hv, _⟩ | ⟨g2, cap2, cur, hv, _, hh2, _⟩
      · rw [hv] at e; cases e
      · rw [hv] at e
        obtain rfl : g' = g2 := by simpa [Value.ownBlock] using e
        rw [hh2] at hh
        have := Option.some.inj hh
        simp only [Obj.cells.injEq] at this
        exact absurd this.2.1 (by decide)
    · obtain rfl : j = rs.length := by omega
      refine ⟨u, g, by rw [List.getElem?_append_right (by omega), hul]; simp, by rw [List.getElem?_append_right (by omega), h2]; simp, ?_⟩
      rw [List.getElem_append_right (by omega)]
      simpa using hr
/-- A string's bytes, new. -/
theorem rec_new (w : World) (xs : List Int) (hb : ∀ x, x ∈ xs → 0 ≤ x ∧ x < 256) (hl : xs.length ≤ 65536) : ∃ (cap : Nat) (W : World), (convert 9 36 (.string (strOfNums xs))).run Tryz.prog w = .ok (.slice (some ⟨w.heap.size, 0, none⟩) xs.length cap) W ∧ Frm (fun _ => False) w W ∧ W.heap.size = w.heap.size + 1 ∧ Rec1 W w.heap.size w.heap.size (.slice (some ⟨w.heap.size, 0, none⟩) xs.length cap) xs := by
  have hsz : (strOfNums xs).size = xs.length := by
    show (strOfNums xs).data.size = _
    rw [← Array.length_toList, strOfNums_data, List.length_map]
  have hrun := Go.Lib.run_convert_string_bytes (P := Tryz.prog) w 9 36 5 (strOfNums xs) Tryz.underlying9 Tryz.underlying36 Tryz.underlying5
  rw [hsz] at hrun
  have hge := grownCap_ge w xs.length 0 5
  have hmx : maxLen = 9223372036854775807 := by decide
  have hle := grownCap_le_maxLen w xs.length 0 5 (by omega)
  have hcs : (bytesCells w 5 (strOfNums xs)).size = grownCap w xs.length 0 5 := by
    unfold bytesCells
    rw [Array.size_append, Array.size_map, Array.size_replicate, hsz]
    have : (strOfNums xs).data.size = xs.length := hsz
    omega
  have hnew := bytesWorld_at_new w 5 (strOfNums xs)
  rw [hcs] at hnew
  refine ⟨_, bytesWorld w 5 (strOfNums xs), hrun, ⟨rfl, rfl, rfl, by rw [bytesWorld_size]; omega, fun k hk _ => bytesWorld_at_old w _ _ k hk⟩, bytesWorld_size _ _ _, grownCap w xs.length 0 5, bytesCells w 5 (strOfNums xs), rfl, Nat.le_refl _, hge, by omega, hcs, hnew, fun j hj => ?_⟩
  have hc := bytesWorld_cell w 5 (strOfNums xs) j (by rw [hsz]; exact hj)
  simp only [World.cell?, hnew] at hc
  have e : (strOfNums xs).data.toList.getD j 0 = UInt8.ofNat (xs.getD j 0).toNat := by
    rw [strOfNums_data, List.getD_eq_getElem?_getD, List.getElem?_map, List.getElem?_eq_getElem hj, List.getD_eq_getElem?_getD, List.getElem?_eq_getElem hj]
    rfl
  rw [e] at hc
  have hx := hb xs[j] (List.getElem_mem hj)
  have hgd : xs.getD j 0 = xs[j] := by rw [List.getD_eq_getElem?_getD, List.getElem?_eq_getElem hj]; rfl
  have h2 : (((UInt8.ofNat (xs.getD j 0).toNat).toNat : Nat) : Int) = xs.getD j 0 := by
    have : (xs.getD j 0).toNat < 256 := by rw [hgd]; omega
    rw [UInt8.toNat_ofNat_of_lt' this]
    rw [hgd]; omega
  rw [h2] at hc
  simpa using hc
end Go.Proofs.YtkmmlfphcfcbgaaGreatDoor.Dw

/- strings.Trim at one byte, by the shelf. -/
namespace Go.Proofs.YtkmmlfphcfcbgaaGreatDoor.Dw
open Go.RowKit Go.ChangeMaps Go.Proofs.YtkmmlfphcfcbgaaGreatDoor.Mp Go.Proofs.YtkmmlfphcfcbgaaGreatDoor.Dm Go.Proofs.YtkmmlfphcfcbgaaGreatDoor.Da Go.Shelf
set_option linter.unusedVariables false
set_option linter.unusedSimpArgs false
set_option linter.unusedSectionVars false
theorem contains_calls (b off n c : Nat) (zs : List Int) (x : Int) (w : World) (hz : n ≤ zs.length) (hbig : n ≤ 9223372036854775807) (hc : ∀ j, j < zs.length → w.cell? ⟨b, off + j, none⟩ = some (.int .i64 (zs.getD j 0))) :
    Calls Tryz.prog 102 #[.slice (some ⟨b, off, none⟩) n c, .int .i64 x] w fun e w' => e = .returned (.bool ((zs.take n).contains x)) ∧ w' = w :=
  Any.slices_Contains_int contains_lays b off n c zs x w hz hbig hc
theorem contains_empty (a : Option Addr) (c : Nat) (x : Int) (w : World) :
    Calls Tryz.prog 102 #[.slice a 0 c, .int .i64 x] w fun e w' => e = .returned (.bool false) ∧ w' = w :=
  Any.slices_Contains_int_empty contains_lays a c x w
/-- strings.Trim(s, "\\x00"). -/
theorem trim_calls (s : ByteArray) (w : World) (hs : s.size ≤ 9223372036854775807) :
    Calls Tryz.prog 146 #[.string s, .string ⟨#[0]⟩] w fun e w' => e = .returned (.string ⟨(Lib.trimB s.data.toList 0).toArray⟩) ∧ (w' = w ∨ w' = w.drew) :=
  Any.strings_Trim_one trim_lays s 0 (by decide) w hs
/-- Nothing is left: nothing but zeros was there. -/
theorem trimB_nil (l : List UInt8) : Lib.trimB l 0 = [] ↔ ∀ x, x ∈ l → x = 0 := by
  unfold Lib.trimB Lib.trimLeftB Lib.trimRightB
  constructor
  · intro h x hx
    by_cases h0 : x = 0
    · exact h0
    · exfalso
      have key : ∀ (m : List UInt8), x ∈ m → x ∈ m.dropWhile (· == 0) := by
        intro m
        induction m with
        | nil => exact fun h => h
        | cons a m ih =>
          intro hm
          rw [List.dropWhile_cons]
          split
          · rename_i ha
            rcases List.mem_cons.1 hm with rfl | hm
            · exact absurd (by simpa using ha) h0
            · exact ih hm
          · exact hm
      have h1 := key l.reverse (List.mem_reverse.2 hx)
      have h2 := key _ (List.mem_reverse.2 h1)
      rw [h] at h2
      cases h2
  · intro h
    have key : ∀ (m : List UInt8), (∀ x, x ∈ m → x = 0) → m.dropWhile (· == 0) = [] := by
      intro m
      induction m with
      | nil => exact fun _ => rfl
      | cons a m ih =>
        intro hm
        rw [List.dropWhile_cons, if_pos (by simpa using hm a List.mem_cons_self)]
        exact ih fun x hx => hm x (List.mem_cons_of_mem _ hx)
    rw [key l.reverse fun x hx => h x (List.mem_reverse.1 hx)]
    rfl
end Go.Proofs.YtkmmlfphcfcbgaaGreatDoor.Dw
