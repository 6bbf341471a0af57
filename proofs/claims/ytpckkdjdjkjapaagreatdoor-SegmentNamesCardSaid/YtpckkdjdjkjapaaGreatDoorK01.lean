/- A part of the proof of segmentNames_holds: Na0, Na1, Na2, Na3, Na4. No condition. -/
import Derived.Ground.NamesProg
import Derived.Shelf.Strconv.ToError
import Derived.Shelf.Strconv.ToErrorRange
import Derived.Lib.ConvBytes
import Derived.Laws.Closers25b
import Derived.Shelf.Small.Wraps
import Derived.Test.YtpckkdjdjkjapaaGreatDoorK00

/- Walks: a number read in base 16. -/
namespace Go.Proofs.YtpckkdjdjkjapaaGreatDoor.Dw
open Go.RowKit Go.ChangeMaps Go.Proofs.YtpckkdjdjkjapaaGreatDoor.Mp Go.Proofs.YtpckkdjdjkjapaaGreatDoor.Dm Go.Proofs.YtpckkdjdjkjapaaGreatDoor.Da Go.Shelf
open Go.Proofs.YtpckkdjdjkjapaaGreatDoorW.PrintWords (ReadsInt string_of_reads)
set_option linter.unusedVariables false
set_option linter.unusedSimpArgs false
set_option linter.unusedSectionVars false
/-- A string's bytes as numbers. -/
def bl (s : ByteArray) : List Int := s.data.toList.map fun b => ((b.toNat : Nat) : Int)
theorem bl_length (s : ByteArray) : (bl s).length = s.size := by
  unfold bl
  rw [List.length_map, Array.length_toList]
  rfl
theorem numOf_snoc {a : List Int} {c : Int} {r : List Int} {y : Nat} (h : Sg.numOf (a ++ c :: r) 0 = some y) : ∃ z d, Sg.numOf a 0 = some z ∧ Sg.hexv c = some d ∧ Sg.numOf (a ++ [c]) 0 = some (16 * z + d) := by
  rw [Sg.numOf_append] at h
  cases ha : Sg.numOf a 0 with
  | none => rw [ha] at h; cases h
  | some z =>
    rw [ha] at h
    simp only [Option.bind_some, Sg.numOf] at h
    cases hc : Sg.hexv c with
    | none => rw [hc] at h; cases h
    | some d => exact ⟨z, d, rfl, rfl, by rw [Sg.numOf_append, ha]; simp [Sg.numOf, hc]⟩
theorem numOf_none {a : List Int} {c : Int} {r : List Int} (hc : Sg.hexv c = none) : Sg.numOf (a ++ c :: r) 0 = none := by
  cases h : Sg.numOf (a ++ c :: r) 0 with
  | none => rfl
  | some y =>
    obtain ⟨z, d, _, h2, _⟩ := numOf_snoc h
    rw [hc] at h2
    cases h2
theorem or32 {c : Nat} (h : 97 ≤ c ∧ c ≤ 102) : bits .or .u8 (c : Int) 32 = (c : Int) := by
  obtain ⟨h1, h2⟩ := h
  have : c = 97 ∨ c = 98 ∨ c = 99 ∨ c = 100 ∨ c = 101 ∨ c = 102 := by omega
  rcases this with rfl | rfl | rfl | rfl | rfl | rfl <;> decide
theorem lower_calls (w : World) (c : Int) : Calls Tryz.prog 202 #[.int .u8 c] w fun e w' => e = .returned (.int .u8 (bits .or .u8 c 32)) ∧ w' = w := by
  go_enter Tryz.func202, Tryz.ntmps202
  go_wp2
  go_ret
  exact ⟨rfl, rfl⟩
/-- What has been read so far: k bytes give n. -/
structure At16 (s : ByteArray) (k n : Nat) : Prop where
  lt : n < 18446744073709551616
  pow : n < 16 ^ k
  num : ∀ y, Sg.numOf ((bl s).take k) 0 = some y → y = n
/-- What is answered. -/
def Got16 (s : ByteArray) (e : Ending) : Prop :=
  ∃ n : Nat, n < 18446744073709551616 ∧ ((e = .returned (.tuple #[.int .u64 n, .nilIface]) ∧ ∀ y, Sg.numOf (bl s) 0 = some y → y = n) ∨ (∃ c : Int, (c = 1 ∨ c = 2) ∧ e = .returned (.tuple #[.int .u64 n, .iface 262 (.int .i64 c)]) ∧ (Sg.numOf (bl s) 0 = none ∨ 16 < s.size)))
theorem At16.next {s : ByteArray} {k n c d : Nat} (h : At16 s k n) (hk : k < s.size) (hc : (bl s).drop k = (c : Int) :: (bl s).drop (k + 1)) (hn : n < 1152921504606846976) (hd : d < 16) (hcd : ∀ v, Sg.hexv (c : Int) = some v → v = d) : At16 s (k + 1) (n * 16 + d) := by
  refine ⟨by omega, ?_, fun y hy => ?_⟩
  · have := h.pow
    rw [Nat.pow_succ]
    omega
  · have e : (bl s).take (k + 1) = (bl s).take k ++ (c : Int) :: [] := by
      have h1 : (bl s).take (k + 1) = (bl s).take k ++ ((bl s).drop k).take 1 := by rw [List.take_add]
      rw [h1, hc]
      rfl
    rw [e] at hy
    obtain ⟨z, d2, h2, h3, h4⟩ := numOf_snoc hy
    rw [h4] at hy
    have := h.num z h2
    have := hcd d2 h3
    have := Option.some.inj hy
    omega
theorem At16.range {s : ByteArray} {k n : Nat} (h : At16 s k n) (hk : k < s.size) (hn : 1152921504606846976 ≤ n) : 16 < s.size := by
  have h1 := h.pow
  rcases Nat.lt_or_ge k 16 with h2 | h2
  · have h3 : 16 ^ k ≤ 16 ^ 15 := Nat.pow_le_pow_right (by decide) (by omega)
    have h4 : (16 : Nat) ^ 15 = 1152921504606846976 := by decide
    omega
  · omega
theorem bad16 {s : ByteArray} {k c : Nat} (hc : (bl s).drop k = (c : Int) :: (bl s).drop (k + 1)) (h : Sg.hexv (c : Int) = none) : Sg.numOf (bl s) 0 = none := by
  have : bl s = (bl s).take k ++ (c : Int) :: (bl s).drop (k + 1) := by rw [← hc, List.take_append_drop]
  rw [this]
  exact numOf_none h
set_option maxHeartbeats 32000000 in
set_option maxRecDepth 100000 in
theorem parse16 (w : World) (s : ByteArray) (hne : s.size ≠ 0) (hmax : s.size ≤ 140737488355328) :
    Calls Tryz.prog 164 #[.string s, .int .i64 16, .int .i64 64] w fun e w' => Got16 s e ∧ Frm (fun _ => False) w w' := by
  have hemp : s.toList.isEmpty = false := by
    rw [← decide_eq_emptyBytes]
    exact decide_eq_false (fun h => hne (by rw [h]; rfl))
  have hcv := Lib.run_convert_string_bytes (P := Tryz.prog) w 9 40 5 s (u := .string) Tryz.underlying9 Tryz.underlying40 Tryz.underlying5
  have hB : ∀ j, j < s.size → (Lib.bytesWorld w 5 s).cell? ⟨w.heap.size, j, none⟩ = some (.int .u8 (s.data.toList.getD j 0).toNat) := fun j hj => Lib.bytesWorld_cell w 5 s j hj
  have hF : Frm (fun _ => False) w (Lib.bytesWorld w 5 s) := ⟨rfl, rfl, rfl, by rw [Lib.bytesWorld_size]; omega, fun k hk _ => Lib.bytesWorld_at_old w _ _ k hk⟩
  obtain ⟨W1, hW1⟩ : ∃ W1, W1 = Lib.bytesWorld w 5 s := ⟨_, rfl⟩
  rw [← hW1] at hcv hB hF
  clear hW1
  have HF := Lib.hid hF
  have HB := Lib.hid hB
  clear hF hB
  have hlen : (bl s).length = s.size := bl_length s
  have HLN := Lib.hid hlen
  obtain ⟨N, hN⟩ : ∃ N, N = s.size := ⟨_, rfl⟩
  have HN0 := Lib.hid hN
  have HNE := Lib.hid hne
  rw [← hN] at hcv hmax
  clear hlen hne hN
  have hmv : IntKind.u64.wrap (IntKind.u64.wrap 18446744073709551616 - 1) = 18446744073709551615 := by
    rw [IntKind.wrap_u64, IntKind.wrap_u64]
    decide
  go_enter Tryz.func164, Tryz.ntmps164
  go_wp2
  go_loop [12, 13, 101] (fun vu vn vi => ∃ (k n : Nat) (a : Int), vu = .bool false ∧ vn = .int .u64 a ∧ vi = .int .i64 k ∧ k ≤ N ∧ Hid (a = (n : Int) ∧ At16 s k n))
    (fun _ _ vi => N - (intOf vi).toNat)
  case atStart => exact ⟨0, 0, 0, rfl, rfl, rfl, by omega, Lib.hid ⟨rfl, by decide, by decide, fun y hy => by simp [Sg.numOf] at hy; exact hy.symm⟩⟩
  case round =>
    obtain ⟨k, n, a, rfl, rfl, rfl, hk, hh⟩ := hrel
    have a0 : 0 ≤ a := by have := hh.out.1; omega
    have a1 : a < 18446744073709551616 := by have := hh.out.1; have := hh.out.2.lt; omega
    by_cases hkn : k < N
    · obtain ⟨c, hcc⟩ : ∃ c : Nat, c = (s.data.toList.getD k 0).toNat := ⟨_, rfl⟩
      have hc := HB.out k (by have := HN0.out; omega)
      rw [← hcc] at hc
      have hc256 : c < 256 := by rw [hcc]; exact UInt8.toNat_lt _
      have HD : Hid ((bl s).drop k = (c : Int) :: (bl s).drop (k + 1)) := Lib.hid (by
        have h1 : k < (bl s).length := by have := HLN.out; have := HN0.out; omega
        rw [List.drop_eq_getElem_cons h1]
        congr 1
        rw [hcc]
        unfold bl at h1 ⊢
        rw [List.getElem_map]
        rw [List.length_map] at h1
        simp [List.getD_eq_getElem?_getD, List.getElem?_eq_getElem h1])
      clear hcc
      by_cases hdig : 48 ≤ c ∧ c ≤ 57
      · obtain ⟨hd0, hd1⟩ := hdig
        by_cases hcut : 1152921504606846976 ≤ a
        · have HR : Hid (16 < s.size) := Lib.hid (hh.out.2.range (by have := HN0.out; omega) (by have := hh.out.1; omega))
          clear hh
          go_wp2
          go_ret2
          exact ⟨⟨18446744073709551615, by decide, Or.inr ⟨1, Or.inl rfl, rfl, Or.inr HR.out⟩⟩, HF.out⟩
        · have HX : Hid (a * 16 + ((c : Int) - 48) = ((n * 16 + (c - 48) : Nat) : Int) ∧ At16 s (k + 1) (n * 16 + (c - 48))) := Lib.hid ⟨by have := hh.out.1; omega, hh.out.2.next (by have := HN0.out; omega) HD.out (by have := hh.out.1; omega) (by omega) (fun v hv => by
            unfold Sg.hexv at hv
            rw [if_pos (by omega)] at hv
            have := Option.some.inj hv
            omega)⟩
          have icut : a < 1152921504606846976 := by omega
          have iov : a * 16 + ((c : Int) - 48) < 18446744073709551616 := by omega
          clear hcut hh
          go_wp2
          exact ⟨⟨k + 1, n * 16 + (c - 48), a * 16 + ((c : Int) - 48), rfl, (by first | rfl | (congr 1; omega)), (by first | rfl | (congr 1; omega)), by omega, HX⟩, by simp [intOf]; omega⟩
      · obtain ⟨l, hl⟩ : ∃ l, l = bits .or .u8 (c : Int) 32 := ⟨_, rfl⟩
        have hv0 : 0 ≤ l := by rw [hl]; exact bits_lo_u8 .or (c : Int) 32
        have hv1 : l ≤ 255 := by rw [hl]; exact bits_hi_u8 .or (c : Int) 32
        have KL : Hid (∀ W : World, Calls Tryz.prog 202 #[.int .u8 (c : Int)] W fun e w' => e = .returned (.int .u8 l) ∧ w' = W) := Lib.hid (fun W => by rw [hl]; exact lower_calls W c)
        have HV : Hid (∀ v, Sg.hexv (c : Int) = some v → l = (c : Int) ∧ 97 ≤ c ∧ c ≤ 102 ∧ v = c - 87) := Lib.hid (fun v hv => by
          unfold Sg.hexv at hv
          rw [if_neg (by omega)] at hv
          split at hv
          · rename_i h2
            exact ⟨by rw [hl]; exact or32 ⟨by omega, by omega⟩, by omega, by omega, by have := Option.some.inj hv; omega⟩
          · cases hv)
        have HNO : Hid (¬ (97 ≤ l ∧ l ≤ 102) → Sg.numOf (bl s) 0 = none) := Lib.hid (fun h => bad16 HD.out (by
          cases hx : Sg.hexv (c : Int) with
          | none => rfl
          | some v => exact absurd (HV.out v hx) (fun ⟨e1, e2, e3, _⟩ => h ⟨by omega, by omega⟩)))
        have HLB := Lib.hid hl
        clear hl
        by_cases h95 : c = 95
        · have hl2 : l = 127 := by rw [HLB.out, h95]; decide
          have HZ := Lib.hid (HNO.out (by omega))
          have KL2 : Hid (∀ W : World, Calls Tryz.prog 202 #[.int .u8 95] W fun e w' => e = .returned (.int .u8 127) ∧ w' = W) := Lib.hid (fun W => by
            have := KL.out W
            rw [h95, hl2] at this
            exact this)
          rw [h95] at hc
          clear hh KL hl2 hv0 hv1 h95
          go_wp2_with (go_at_call 202; (with_reducible refine (KL2.out _).mono ?_); rintro e u1 ⟨rfl, hu⟩; subst hu)
          all_goals go_ret2
          all_goals exact ⟨⟨0, by decide, Or.inr ⟨2, Or.inr rfl, rfl, Or.inl HZ.out⟩⟩, HF.out⟩
        have hn95 : ((c : Int) == 95) = false := by simp; omega
        by_cases hlet : 97 ≤ l ∧ l ≤ 102
        · obtain ⟨hl0, hl1⟩ := hlet
          by_cases hcut : 1152921504606846976 ≤ a
          · have HR : Hid (16 < s.size) := Lib.hid (hh.out.2.range (by have := HN0.out; omega) (by have := hh.out.1; omega))
            clear hh
            go_wp2_with (go_at_call 202; (with_reducible refine (KL.out _).mono ?_); rintro e u1 ⟨rfl, hu⟩; subst hu)
            all_goals go_ret2
            all_goals exact ⟨⟨18446744073709551615, by decide, Or.inr ⟨1, Or.inl rfl, rfl, Or.inr HR.out⟩⟩, HF.out⟩
          · obtain ⟨ln, hln⟩ : ∃ ln : Nat, l = (ln : Int) := ⟨l.toNat, by omega⟩
            subst hln
            have HX : Hid (a * 16 + ((ln : Int) - 87) = ((n * 16 + (ln - 87) : Nat) : Int) ∧ At16 s (k + 1) (n * 16 + (ln - 87))) := Lib.hid ⟨by have := hh.out.1; omega, hh.out.2.next (by have := HN0.out; omega) HD.out (by have := hh.out.1; omega) (by omega) (fun v hv => by
              obtain ⟨e1, e2, e3, e4⟩ := HV.out v hv
              omega)⟩
            have icut : a < 1152921504606846976 := by omega
            have iov : a * 16 + ((ln : Int) - 87) < 18446744073709551616 := by omega
            clear hcut hh
            go_wp2_with (go_at_call 202; (with_reducible refine (KL.out _).mono ?_); rintro e u1 ⟨rfl, hu⟩; subst hu)
            all_goals exact ⟨⟨k + 1, n * 16 + (ln - 87), a * 16 + ((ln : Int) - 87), rfl, (by first | rfl | (congr 1; omega)), (by first | rfl | (congr 1; omega)), by omega, HX⟩, by simp [intOf]; omega⟩
        · have HZ := Lib.hid (HNO.out hlet)
          clear hh
          go_wp2_with (go_at_call 202; (with_reducible refine (KL.out _).mono ?_); rintro e u1 ⟨rfl, hu⟩; subst hu)
          all_goals go_ret2
          all_goals exact ⟨⟨0, by decide, Or.inr ⟨2, Or.inr rfl, rfl, Or.inl HZ.out⟩⟩, HF.out⟩
    · have hkk : k = N := by omega
      have HNN : Hid ((bl s).take k = bl s) := Lib.hid (List.take_of_length_le (by have := HLN.out; have := HN0.out; omega))
      subst hkk
      obtain ⟨ha, hat⟩ := hh.out
      have HA := Lib.hid hat
      subst ha
      clear hh hat a0 a1
      go_wp2
      go_ret2
      exact ⟨⟨n, HA.out.lt, Or.inl ⟨rfl, fun y hy => HA.out.num y (by rw [HNN.out]; exact hy)⟩⟩, HF.out⟩
end Go.Proofs.YtpckkdjdjkjapaaGreatDoor.Dw

/- Walks: a segment's name read back. -/
namespace Go.Proofs.YtpckkdjdjkjapaaGreatDoor.Dw
open Go.RowKit Go.ChangeMaps Go.Proofs.YtpckkdjdjkjapaaGreatDoor.Mp Go.Proofs.YtpckkdjdjkjapaaGreatDoor.Dm Go.Proofs.YtpckkdjdjkjapaaGreatDoor.Da Go.Shelf
open Go.Proofs.YtpckkdjdjkjapaaGreatDoorW.PrintWords (ReadsInt string_of_reads)
set_option linter.unusedVariables false
set_option linter.unusedSimpArgs false
set_option linter.unusedSectionVars false
/-- The two errors of strconv are there. -/
structure NumErrs (w : World) : Prop where
  syn : ∃ t p, w.cell? ⟨16, 0, none⟩ = some (.iface t p)
  rng : ∃ t p, w.cell? ⟨17, 0, none⟩ = some (.iface t p)
theorem NumErrs.frm {w w' : World} (h : NumErrs w) (hf : Frm (fun _ => False) w w') : NumErrs w' := by
  obtain ⟨⟨t, p, h1⟩, ⟨t2, p2, h2⟩⟩ := h
  exact ⟨⟨t, p, frmC hf h1⟩, ⟨t2, p2, frmC hf h2⟩⟩
/-- What ParseUint answers: a number and no error, or some number and an error. -/
def GotU (s : ByteArray) (e : Ending) : Prop :=
  ∃ n : Nat, n < 18446744073709551616 ∧ ((e = .returned (.tuple #[.int .u64 n, .nilIface]) ∧ ∀ y, Sg.numOf (bl s) 0 = some y → y = n) ∨ (∃ t p, e = .returned (.tuple #[.int .u64 n, .iface t p]) ∧ (Sg.numOf (bl s) 0 = none ∨ s.size ≠ 16)))
theorem toErr_calls (w : World) (s : ByteArray) (hmax : s.size ≤ 140737488355328) (he : NumErrs w) (c : Int) (hc : c = 1 ∨ c = 2) (fn : ByteArray) :
    Calls Tryz.prog 165 #[.string fn, .string s, .int .i64 16, .int .i64 64, .iface 262 (.int .i64 c)] w fun e w' => (∃ t p, e = .returned (.iface t p)) ∧ Frm (fun _ => False) w w' := by
  obtain ⟨⟨t, p, h1⟩, ⟨t2, p2, h2⟩⟩ := he
  rcases hc with rfl | rfl
  · refine (Any.strconv_toError_range toErr_lays fn s 16 64 (.iface t2 p2) w (by omega) h2 (Or.inr ⟨_, _, rfl⟩)).mono ?_
    rintro e w' ⟨N, rfl, _, _, hb⟩
    exact ⟨⟨_, _, rfl⟩, Frm.of_below hb _⟩
  · refine (Any.strconv_toError_syntax toErr_lays fn s 16 64 (.iface t p) w (by omega) h1 (Or.inr ⟨_, _, rfl⟩)).mono ?_
    rintro e w' ⟨N, rfl, _, _, hb⟩
    exact ⟨⟨_, _, rfl⟩, Frm.of_below hb _⟩
set_option maxRecDepth 100000 in
theorem parse_empty (w : World) (s : ByteArray) (h0 : s.size = 0) : Calls Tryz.prog 164 #[.string s, .int .i64 16, .int .i64 64] w fun e w' => e = .returned (.tuple #[.int .u64 0, .iface 262 (.int .i64 2)]) ∧ w' = w := by
  have hs : s = ⟨#[]⟩ := by
    apply ByteArray.ext
    exact Array.eq_empty_of_size_eq_zero h0
  subst hs
  go_enter Tryz.func164, Tryz.ntmps164
  go_wp2
  go_ret2
  exact ⟨rfl, rfl⟩
set_option maxRecDepth 100000 in
theorem parseU_calls (w : World) (s : ByteArray) (hmax : s.size ≤ 140737488355328) (he : NumErrs w) :
    Calls Tryz.prog 108 #[.string s, .int .i64 16, .int .i64 64] w fun e w' => GotU s e ∧ Frm (fun _ => False) w w' := by
  have KT := Lib.hid (fun W (hW : Frm (fun _ => False) w W) c hc fn => toErr_calls W s hmax (he.frm hW) c hc fn)
  by_cases h0 : s.size = 0
  · have KP := Lib.hid (parse_empty w s h0)
    have HS : Hid (s.size ≠ 16) := Lib.hid (by omega)
    clear h0 he hmax
    go_enter Tryz.func108, Tryz.ntmps108
    go_wp2_with (first
      | (go_at_call 164; (with_reducible refine KP.out.mono ?_); rintro e w1 ⟨rfl, rfl⟩)
      | (go_at_call 165; (with_reducible refine (KT.out _ (Frm.refl _ _) 2 (Or.inr rfl) _).mono ?_); rintro e w2 ⟨⟨t, p, rfl⟩, hf2⟩; have H2 := Lib.hid hf2; clear hf2))
    go_ret2
    exact ⟨⟨0, by decide, Or.inr ⟨t, p, rfl, Or.inr HS.out⟩⟩, H2.out⟩
  · have KP := parse16 w s h0 hmax
    have KP2 : (Calls Tryz.prog 164 #[.string s, .int .i64 16, .int .i64 64] w fun e w' => ∃ n : Nat, n < 18446744073709551616 ∧ ∃ ev, e = .returned (.tuple #[.int .u64 n, ev]) ∧ Frm (fun _ => False) w w' ∧ ((ev = .nilIface ∧ ∀ y, Sg.numOf (bl s) 0 = some y → y = n) ∨ (∃ c : Int, (c = 1 ∨ c = 2) ∧ ev = .iface 262 (.int .i64 c) ∧ (Sg.numOf (bl s) 0 = none ∨ 16 < s.size)))) := by
      refine KP.mono ?_
      rintro e w' ⟨⟨n, hn, h⟩, hf⟩
      rcases h with ⟨rfl, h⟩ | ⟨c, hc, rfl, h⟩
      · exact ⟨n, hn, _, rfl, hf, Or.inl ⟨rfl, h⟩⟩
      · exact ⟨n, hn, _, rfl, hf, Or.inr ⟨c, hc, rfl, h⟩⟩
    have KP3 := Lib.hid KP2
    clear h0 he hmax KP KP2
    go_enter Tryz.func108, Tryz.ntmps108
    go_upto_region 2 with (go_at_call 164; (with_reducible refine KP3.out.mono ?_); rintro e w1 ⟨n, hn, ev, rfl, hf1, hev⟩; have H1 := Lib.hid hf1; have HN := Lib.hid hn; have HEV := Lib.hid hev; clear hf1 hn hev)
    rcases HEV.out with ⟨hnil, hy⟩ | ⟨c, hc, hce, hy⟩
    · subst hnil
      have HY := Lib.hid hy
      clear hy
      go_wp2
      go_ret2
      exact ⟨⟨n, HN.out, Or.inl ⟨rfl, HY.out⟩⟩, H1.out⟩
    · subst hce
      have HY := Lib.hid (And.intro hc hy)
      clear hy hc
      go_wp2_with (go_at_call 165; (with_reducible refine (KT.out _ H1.out c HY.out.1 _).mono ?_); rintro e w2 ⟨⟨t, p, rfl⟩, hf2⟩; have H2 := Lib.hid hf2; clear hf2)
      go_ret2
      exact ⟨⟨n, HN.out, Or.inr ⟨t, p, rfl, HY.out.2.imp id (fun h => by omega)⟩⟩, H1.out.trans H2.out (fun _ _ h => h)⟩
end Go.Proofs.YtpckkdjdjkjapaaGreatDoor.Dw

/- Walks: segment.First. -/
namespace Go.Proofs.YtpckkdjdjkjapaaGreatDoor.Dw
open Go.RowKit Go.ChangeMaps Go.Proofs.YtpckkdjdjkjapaaGreatDoor.Mp Go.Proofs.YtpckkdjdjkjapaaGreatDoor.Dm Go.Proofs.YtpckkdjdjkjapaaGreatDoor.Da Go.Shelf
open Go.Proofs.YtpckkdjdjkjapaaGreatDoorW.PrintWords (ReadsInt string_of_reads)
set_option linter.unusedVariables false
set_option linter.unusedSimpArgs false
set_option linter.unusedSectionVars false
theorem bl_inj {a b : ByteArray} (h : bl a = bl b) : a = b := by
  unfold bl at h
  apply ByteArray.ext
  apply Array.toList_inj.1
  refine List.map_inj_right (f := fun b : UInt8 => ((b.toNat : Nat) : Int)) (fun x y e => ?_) |>.1 h
  have : x.toNat = y.toNat := by
    have e2 : ((x.toNat : Nat) : Int) = ((y.toNat : Nat) : Int) := e
    omega
  exact UInt8.toNat_inj.1 this
theorem bl_strOf {xs : List Int} (h : ∀ x, x ∈ xs → 0 ≤ x ∧ x < 256) : bl (strOfNums xs) = xs := by
  unfold bl
  rw [strOfNums_data, List.map_map]
  conv => rhs; rw [← List.map_id xs]
  apply List.map_congr_left
  intro x hx
  have hb := h x hx
  show (((UInt8.ofNat x.toNat).toNat : Nat) : Int) = x
  have h256 : x.toNat < 256 := by omega
  rw [UInt8.toNat_ofNat_of_lt' h256]
  omega
theorem hexd_byte (x : Nat) (h : x < 16) : 0 ≤ Sg.hexd x ∧ Sg.hexd x < 256 := by
  unfold Sg.hexd
  split <;> omega
theorem digs_byte : ∀ (n x : Nat) (y : Int), y ∈ Sg.digs n x → 0 ≤ y ∧ y < 256
  | 0, x, y, h => by simp [Sg.digs] at h
  | n + 1, x, y, h => by
    rw [Sg.digs] at h
    rcases List.mem_append.1 h with h | h
    · exact digs_byte n _ y h
    · rw [List.mem_singleton.1 h]
      exact hexd_byte _ (Nat.mod_lt _ (by decide))
theorem name_byte (x : Nat) : ∀ y, y ∈ Sg.nameOf x → 0 ≤ y ∧ y < 256 := by
  intro y hy
  unfold Sg.nameOf at hy
  rcases List.mem_append.1 hy with hy | hy
  · have : ∀ z, z ∈ Sg.logB → 0 ≤ z ∧ z < 256 := by decide
    exact this y hy
  · exact digs_byte _ _ y hy
theorem bl_nm (x : Nat) : bl (nmOf x) = Sg.nameOf x := bl_strOf (name_byte x)
theorem nm_iff (n : ByteArray) (x : Nat) : n = nmOf x ↔ bl n = Sg.nameOf x := ⟨fun h => by rw [h, bl_nm], fun h => bl_inj (by rw [h, bl_nm])⟩
theorem nameOf_inj {x y : Nat} (hx : x < 18446744073709551616) (hy : y < 18446744073709551616) (h : Sg.nameOf x = Sg.nameOf y) : x = y := by
  unfold Sg.nameOf at h
  have h1 := List.append_cancel_left h
  have e1 := Sg.numOf_digs 16 x 0 (by have : (16 : Nat) ^ 16 = 18446744073709551616 := by decide
                                      omega)
  have e2 := Sg.numOf_digs 16 y 0 (by have : (16 : Nat) ^ 16 = 18446744073709551616 := by decide
                                      omega)
  rw [h1, e2] at e1
  have := Option.some.inj e1
  omega
def logP : ByteArray := ⟨#[108, 111, 103, 46]⟩
theorem bl_drop (s : ByteArray) (k : Nat) : bl ⟨(s.data.toList.drop k).toArray⟩ = (bl s).drop k := by
  unfold bl
  rw [List.map_drop]
theorem bl_take (s : ByteArray) (k : Nat) : bl ⟨(s.data.toList.take k).toArray⟩ = (bl s).take k := by
  unfold bl
  rw [List.map_take]
/-- The front that is cut off. -/
theorem cut_log (s : ByteArray) : (Lib.hasPrefix s.data.toList logP.data.toList = true ∧ bl ⟨(Lib.trimPrefix s.data.toList logP.data.toList).toArray⟩ = (bl s).drop 4 ∧ (bl s).take 4 = Sg.logB) ∨ (Lib.hasPrefix s.data.toList logP.data.toList = false ∧ (bl s).take 4 ≠ Sg.logB) := by
  have key : Lib.hasPrefix s.data.toList logP.data.toList = true ↔ (bl s).take 4 = Sg.logB := by
    unfold Lib.hasPrefix
    rw [List.isPrefixOf_iff_prefix]
    rw [List.prefix_iff_eq_take]
    constructor
    · intro h
      rw [← bl_take]
      have e : s.data.toList.take 4 = logP.data.toList := h.symm
      rw [e]
      rfl
    · intro h
      have h2 : (⟨(s.data.toList.take 4).toArray⟩ : ByteArray) = logP := bl_inj (by rw [bl_take, h]; rfl)
      have h3 := congrArg (fun b : ByteArray => b.data.toList) h2
      simp only [] at h3
      exact h3.symm
  cases hp : Lib.hasPrefix s.data.toList logP.data.toList with
  | true =>
    left
    refine ⟨rfl, ?_, key.1 hp⟩
    unfold Lib.trimPrefix
    rw [if_pos hp]
    exact bl_drop s 4
  | false =>
    right
    refine ⟨rfl, fun h => ?_⟩
    rw [key.2 h] at hp
    cases hp
theorem first_no1 {s : ByteArray} (h : (bl s).take 4 ≠ Sg.logB) : Sg.firstOf (bl s) = none := by
  unfold Sg.firstOf
  rw [if_neg (fun h2 => h h2.2)]
theorem first_no2 {s t : ByteArray} (ht : bl t = (bl s).drop 4) (h : Sg.numOf (bl t) 0 = none ∨ t.size ≠ 16) : Sg.firstOf (bl s) = none := by
  cases hf : Sg.firstOf (bl s) with
  | none => rfl
  | some y =>
    obtain ⟨e, h1, h2⟩ := (Sg.firstOf_iff _ _).1 hf
    have e2 : bl t = Sg.digs 16 y := by rw [ht, e]; exact List.drop_left' rfl
    rcases h with h | h
    · rw [e2, Sg.numOf_digs 16 y 0 (by have : (16 : Nat) ^ 16 = 18446744073709551616 := by decide
                                       omega)] at h
      cases h
    · exact absurd (by rw [← bl_length, e2, Sg.digs_length]) h
theorem first_no3 {s t : ByteArray} {n : Nat} (ht : bl t = (bl s).drop 4) (h : ∀ y, Sg.numOf (bl t) 0 = some y → y = n) (hn : s ≠ nmOf n) : Sg.firstOf (bl s) = none := by
  cases hf : Sg.firstOf (bl s) with
  | none => rfl
  | some y =>
    obtain ⟨e, h1, h2⟩ := (Sg.firstOf_iff _ _).1 hf
    have e2 : bl t = Sg.digs 16 y := by rw [ht, e]; exact List.drop_left' rfl
    have := h _ (by rw [e2]; exact Sg.numOf_digs 16 y 0 (by have : (16 : Nat) ^ 16 = 18446744073709551616 := by decide
                                                            omega))
    have e3 : y = n := by omega
    subst e3
    exact absurd ((nm_iff s y).2 e) hn
theorem first_no4 {n : Nat} (hn : n < 18446744073709551616) (h : ¬ (1 ≤ n ∧ n ≤ 4611686018427387904)) : Sg.firstOf (bl (nmOf n)) = none := by
  cases hf : Sg.firstOf (bl (nmOf n)) with
  | none => rfl
  | some y =>
    obtain ⟨e, h1, h2⟩ := (Sg.firstOf_iff _ _).1 hf
    rw [bl_nm] at e
    have := nameOf_inj hn (by omega) e
    subst this
    exact absurd ⟨h1, h2⟩ h
theorem first_yes {n : Nat} (h : 1 ≤ n ∧ n ≤ 4611686018427387904) : Sg.firstOf (bl (nmOf n)) = some n := (Sg.firstOf_iff _ _).2 ⟨bl_nm n, h⟩
set_option maxRecDepth 100000 in
theorem good_any (w : World) (x : Nat) : Calls Tryz.prog 109 #[.int .u64 x] w fun e w' => e = .returned (.bool (decide (1 ≤ x ∧ x ≤ 4611686018427387904))) ∧ w' = w := by
  by_cases h1 : 1 ≤ x
  · have hd0 : decide ((1 : Int) ≤ (x : Int)) = true := decide_eq_true (by omega)
    by_cases h2 : x ≤ 4611686018427387904
    · have hd : decide ((x : Int) ≤ 4611686018427387904) = true := decide_eq_true (by omega)
      rw [decide_eq_true ⟨h1, h2⟩]
      go_enter Tryz.func109, Tryz.ntmps109
      go_wp2
      go_ret
      exact ⟨rfl, rfl⟩
    · have hd : decide ((x : Int) ≤ 4611686018427387904) = false := decide_eq_false (by omega)
      rw [decide_eq_false (fun h => h2 h.2)]
      go_enter Tryz.func109, Tryz.ntmps109
      go_wp2
      go_ret
      exact ⟨rfl, rfl⟩
  · have hd0 : decide ((1 : Int) ≤ (x : Int)) = false := decide_eq_false (by omega)
    have hd1 : decide ((x : Int) ≥ 1) = false := decide_eq_false (by omega)
    rw [decide_eq_false (fun h => h1 h.1)]
    go_enter Tryz.func109, Tryz.ntmps109
    go_wp2
    go_ret
    exact ⟨rfl, rfl⟩
/-- What First answers. -/
def FirstV (s : ByteArray) : Value := .tuple #[.int .u64 (((Sg.firstOf (bl s)).getD 0 : Nat) : Int), .bool (Sg.firstOf (bl s)).isSome]
set_option maxHeartbeats 1000000 in
set_option maxRecDepth 100000 in
theorem first_calls (w : World) (s : ByteArray) (hmax : s.size ≤ 140737488355328) (he : NumErrs w) (hT : TabAt 21 Lib.deBruijn64tab w) :
    Calls Tryz.prog 48 #[.string s] w fun e w' => e = .returned (FirstV s) ∧ Frm (fun _ => False) w w' := by
  have KC : Calls Tryz.prog 107 #[.string s, .string logP] w fun e w' => e = .returned (.tuple #[.string ⟨(Lib.trimPrefix s.data.toList logP.data.toList).toArray⟩, .bool (Lib.hasPrefix s.data.toList logP.data.toList)]) ∧ w' = w := Any.strings_CutPrefix cutp_lays s logP w
  have ht2 : ∀ b : ByteArray, b.data.size = b.size := fun b => rfl
  obtain ⟨t, ht⟩ : ∃ t : ByteArray, t = ⟨(Lib.trimPrefix s.data.toList logP.data.toList).toArray⟩ := ⟨_, rfl⟩
  have hts : t.size ≤ s.size := by
    rw [ht]
    show (Lib.trimPrefix s.data.toList logP.data.toList).toArray.size ≤ s.data.size
    rw [List.size_toArray, ← Array.length_toList]
    unfold Lib.trimPrefix
    split
    · rw [List.length_drop]; omega
    · exact Nat.le_refl _
  have KU := Lib.hid (parseU_calls w t (by omega) he)
  have KN := Lib.hid (fun W (hW : Frm (fun _ => False) w W) (n : Nat) (hn : n < 18446744073709551616) => name_calls W n hn (TabAt.frm hT hW (fun h => h)))
  have KG := Lib.hid good_any
  have hcut := cut_log s
  rw [← ht] at hcut KC
  unfold logP at KC
  unfold FirstV
  have HTT := Lib.hid ht
  clear he hT hmax hts ht ht2
  rcases hcut with ⟨hp, hb, hl⟩ | ⟨hp, hl⟩
  · unfold logP at hp
    rw [hp] at KC
    have KC2 := Lib.hid KC
    have HB := Lib.hid (And.intro hb hl)
    clear hp hb hl KC
    have KU2 : Hid (Calls Tryz.prog 108 #[.string t, .int .i64 16, .int .i64 64] w fun e w' => ∃ n : Nat, n < 18446744073709551616 ∧ ∃ ev, e = .returned (.tuple #[.int .u64 n, ev]) ∧ Frm (fun _ => False) w w' ∧ ((ev = .nilIface ∧ ∀ y, Sg.numOf (bl t) 0 = some y → y = n) ∨ (∃ tt p, ev = .iface tt p ∧ (Sg.numOf (bl t) 0 = none ∨ t.size ≠ 16)))) := Lib.hid (by
      refine KU.out.mono ?_
      rintro e w' ⟨⟨n, hn, h⟩, hf⟩
      rcases h with ⟨rfl, h⟩ | ⟨tt, p, rfl, h⟩
      · exact ⟨n, hn, _, rfl, hf, Or.inl ⟨rfl, h⟩⟩
      · exact ⟨n, hn, _, rfl, hf, Or.inr ⟨tt, p, rfl, h⟩⟩)
    go_enter Tryz.func48, Tryz.ntmps48
    go_upto_region 3 with (first
      | (go_at_call 107; (with_reducible refine KC2.out.mono ?_); rintro e w1 ⟨rfl, hu⟩; rw [hu]; clear hu)
      | (go_at_call 108; (with_reducible refine KU2.out.mono ?_); rintro e w2 ⟨n, hn, ev, rfl, hf2, hev⟩; have H2 := Lib.hid hf2; have HN := Lib.hid hn; have HEV := Lib.hid hev; clear hf2 hn hev))
    rcases HEV.out with ⟨hnil, hy⟩ | ⟨tt, p, hce, hy⟩
    · subst hnil
      have HY := Lib.hid hy
      clear hy
      by_cases hnm : s = nmOf n
      · have hstr : ((nmOf n).toList == s.toList) = true := by rw [hnm]; simp
        by_cases hg : 1 ≤ n ∧ n ≤ 4611686018427387904
        · have KG2 := Lib.hid (fun W => KG.out W n)
          simp only [decide_eq_true hg] at KG2
          have HR : Hid (Sg.firstOf (bl s) = some n) := Lib.hid (by rw [hnm]; exact first_yes hg)
          clear hnm hg
          go_wp2_with (first
            | (go_at_call 40; (with_reducible refine (KN.out _ H2.out n HN.out).mono ?_); rintro e w3 ⟨rfl, hf3⟩; have H3 := Lib.hid hf3; clear hf3)
            | (go_at_call 109; (with_reducible refine (KG2.out _).mono ?_); rintro e w4 ⟨rfl, hu⟩; rw [hu]; clear hu))
          go_ret2
          refine ⟨?_, H2.out.trans H3.out (fun _ _ h => h)⟩
          rw [HR.out]
          rfl
        · have KG2 := Lib.hid (fun W => KG.out W n)
          simp only [decide_eq_false hg] at KG2
          have HR : Hid (Sg.firstOf (bl s) = none) := Lib.hid (by rw [hnm]; exact first_no4 HN.out hg)
          clear hnm hg
          go_wp2_with (first
            | (go_at_call 40; (with_reducible refine (KN.out _ H2.out n HN.out).mono ?_); rintro e w3 ⟨rfl, hf3⟩; have H3 := Lib.hid hf3; clear hf3)
            | (go_at_call 109; (with_reducible refine (KG2.out _).mono ?_); rintro e w4 ⟨rfl, hu⟩; rw [hu]; clear hu))
          go_ret2
          refine ⟨?_, H2.out.trans H3.out (fun _ _ h => h)⟩
          rw [HR.out]
          rfl
      · have hstr : ((nmOf n).toList == s.toList) = false := strBeq _ _ _ ⟨fun h => absurd h Bool.false_ne_true, fun h => absurd h.symm hnm⟩
        have HR : Hid (Sg.firstOf (bl s) = none) := Lib.hid (first_no3 HB.out.1 HY.out hnm)
        clear hnm
        go_wp2_with (first
          | (go_at_call 40; (with_reducible refine (KN.out _ H2.out n HN.out).mono ?_); rintro e w3 ⟨rfl, hf3⟩; have H3 := Lib.hid hf3; clear hf3))
        go_ret2
        refine ⟨?_, H2.out.trans H3.out (fun _ _ h => h)⟩
        rw [HR.out]
        rfl
    · subst hce
      have HR : Hid (Sg.firstOf (bl s) = none) := Lib.hid (first_no2 HB.out.1 hy)
      clear hy
      go_wp2
      go_ret2
      refine ⟨?_, H2.out⟩
      rw [HR.out]
      rfl
  · unfold logP at hp
    rw [hp] at KC
    have KC2 := Lib.hid KC
    have HR : Hid (Sg.firstOf (bl s) = none) := Lib.hid (first_no1 hl)
    have KU2 : Hid (Calls Tryz.prog 108 #[.string t, .int .i64 16, .int .i64 64] w fun e w' => ∃ n : Nat, ∃ ev, e = .returned (.tuple #[.int .u64 n, ev]) ∧ Frm (fun _ => False) w w') := Lib.hid (by
      refine KU.out.mono ?_
      rintro e w' ⟨⟨n, hn, h⟩, hf⟩
      rcases h with ⟨rfl, h⟩ | ⟨tt, p, rfl, h⟩
      · exact ⟨n, _, rfl, hf⟩
      · exact ⟨n, _, rfl, hf⟩)
    clear hp hl KC
    go_enter Tryz.func48, Tryz.ntmps48
    go_wp2_with (first
      | (go_at_call 107; (with_reducible refine KC2.out.mono ?_); rintro e w1 ⟨rfl, hu⟩; rw [hu]; clear hu)
      | (go_at_call 108; (with_reducible refine KU2.out.mono ?_); rintro e w2 ⟨n, ev, rfl, hf2⟩; have H2 := Lib.hid hf2; clear hf2))
    go_ret2
    refine ⟨?_, H2.out⟩
    rw [HR.out]
    rfl
end Go.Proofs.YtpckkdjdjkjapaaGreatDoor.Dw

/- Walks: the reference's names of segments. -/
namespace Go.Proofs.YtpckkdjdjkjapaaGreatDoor.Dw
open Go.RowKit Go.ChangeMaps Go.Proofs.YtpckkdjdjkjapaaGreatDoor.Mp Go.Proofs.YtpckkdjdjkjapaaGreatDoor.Dm Go.Proofs.YtpckkdjdjkjapaaGreatDoor.Da Go.Shelf
open Go.Proofs.YtpckkdjdjkjapaaGreatDoorW.PrintWords (ReadsInt string_of_reads)
set_option linter.unusedVariables false
set_option linter.unusedSimpArgs false
set_option linter.unusedSectionVars false
/-- The digits written so far: from place m on. -/
def Buf16 (w0 : World) (wr : World) (m : Nat) (acc : List Int) : Prop :=
  ∃ cur : Array Value, wr.heap[w0.heap.size]? = some (.cells cur 5 (0, 0)) ∧ cur.size = 16 ∧ m + acc.length = 16 ∧ ∀ j, j < acc.length → cur[m + j]? = some (.int .u8 (acc.getD j 0))
theorem Buf16.put {w0 wr : World} {m : Nat} {acc : List Int} (h : Buf16 w0 wr (m + 1) acc) {c : Int} {v : Value} (hv : v = .int .u8 c) : Buf16 w0 (wr.setCell ⟨w0.heap.size, m, none⟩ v) m (c :: acc) := by
  obtain ⟨cur, hb, hs, hl, hc⟩ := h
  subst hv
  refine ⟨_, blk_set hb, by simp [hs], by simp; omega, fun j hj => ?_⟩
  rcases j with _ | j
  · simp [Array.getElem?_setIfInBounds, hs]; omega
  · have := hc j (by simpa using hj)
    rw [Array.getElem?_setIfInBounds, if_neg (by omega)]
    rw [show m + (j + 1) = m + 1 + j from by omega, this]
    simp
theorem Buf16.reads {w0 wr : World} {acc : List Int} (h : Buf16 w0 wr 0 acc) : ReadsInt wr .u8 (some ⟨w0.heap.size, 0, none⟩) 16 acc := by
  obtain ⟨cur, hb, hs, hl, hc⟩ := h
  refine reads_mk (by omega) (fun i hi => cell_of hb (hc i (by omega))) (by omega)
theorem hex_at16 : ∀ (z : Nat) (h : z < 16) (hp : z < (⟨#[48, 49, 50, 51, 52, 53, 54, 55, 56, 57, 97, 98, 99, 100, 101, 102]⟩ : ByteArray).size), Value.int .u8 (((⟨#[48, 49, 50, 51, 52, 53, 54, 55, 56, 57, 97, 98, 99, 100, 101, 102]⟩ : ByteArray)[z]'hp).toNat : Int) = .int .u8 (Sg.hexd z) := by
  intro z h hp
  match z, h with
  | 0, _ | 1, _ | 2, _ | 3, _ | 4, _ | 5, _ | 6, _ | 7, _ | 8, _ | 9, _ | 10, _ | 11, _ | 12, _ | 13, _ | 14, _ | 15, _ => rfl
  | n + 16, h => omega
theorem buf16_new {w w1 : World} (h : w1.ownsRow w.heap.size 5 1 (.slice (some ⟨w.heap.size, 0, none⟩) 16 16) 16 (u8s (List.replicate 16 0))) : Buf16 w w1 16 [] := by
  rcases h.2 with ⟨hv, _⟩ | ⟨g, cap, cur, hv, _, hh, _, _, h5, _⟩
  · cases hv
  · simp only [Value.slice.injEq, Option.some.injEq, Addr.mk.injEq, and_true, true_and] at hv
    obtain ⟨rfl, rfl⟩ := hv
    exact ⟨cur, hh, by omega, rfl, fun j hj => absurd hj (Nat.not_lt_zero _)⟩
set_option maxHeartbeats 1000000 in
set_option maxRecDepth 100000 in
theorem rdigits_calls (w : World) (x : Nat) (hx : x < 18446744073709551616) :
    Calls Tryz.prog 111 #[.int .u64 x] w fun e w' => e = .returned (.string (strOfNums (Sg.digs 16 x))) ∧ Frm (fun _ => False) w w' := by
  go_enter Tryz.func111, Tryz.ntmps111
  go_wp2_with (at_make; refine wpl_make_bytes rfl _ _ rfl _ _ _ _ 16 16 rfl rfl rfl rfl (by decide) (by decide) ?_; intro w1 hr1 hf1; have H1 := Lib.hid (And.intro (buf16_new hr1) hf1); clear hr1 hf1)
  go_loopw [4, 0] (fun iv u wr => ∃ (acc : List Int) (m y : Nat) (a : Int), iv = .int .i64 a ∧ u = .int .u64 (y : Nat) ∧ y < 18446744073709551616 ∧ Hid (a = (m : Int) - 1 ∧ Buf16 w wr m acc ∧ Sg.digs 16 x = Sg.digs m y ++ acc ∧ Frm (fun _ => False) w wr)) (fun iv _ _ => ((intOf iv) + 1).toNat)
  case atStart => exact ⟨[], 16, x, 15, rfl, rfl, hx, Lib.hid ⟨rfl, H1.out.1, by simp, H1.out.2⟩⟩
  case round =>
    obtain ⟨acc, m, y, a, rfl, rfl, hy, hh⟩ := hrel
    rcases m with _ | m
    · have ha : a = -1 := by have := hh.out.1; omega
      subst ha
      obtain ⟨hz0, hbuf, hdg, hfr⟩ := hh.out
      clear hz0
      have cv := string_of_reads (P := Tryz.prog) (c := 16) Tryz.underlying40 Tryz.underlying5 Tryz.underlying9 hbuf.reads
      have HD : Hid (Sg.digs 16 x = acc) := Lib.hid (by simpa [Sg.digs] using hdg)
      have HF := Lib.hid hfr
      clear hbuf hdg hfr hh
      go_wp2
      go_ret
      exact ⟨by rw [HD.out]; rfl, HF.out⟩
    · obtain ⟨ha, hbuf, hdg, hfr⟩ := hh.out
      have ha2 : a = (m : Int) := by omega
      subst ha2
      obtain ⟨cur, hb, hcs, hia, hacc⟩ := id hbuf
      have hm : m < 16 := by omega
      obtain ⟨u0, hcell⟩ : ∃ u, wr.cell? ⟨w.heap.size, m, none⟩ = some u := ⟨cur[m]'(by omega), cell_of hb (by rw [Array.getElem?_eq_getElem])⟩
      have hfz : wr.frozen? ⟨w.heap.size, m, none⟩ = false := frozen_of hb
      obtain ⟨z, hz⟩ : ∃ z, z = y % 16 := ⟨_, rfl⟩
      have hmod : (y : Int) % 16 = (z : Int) := by omega
      have hy16 : z < 16 := by omega
      have HZ := Lib.hid hz
      have HH := Lib.hid (And.intro hbuf (And.intro hdg hfr))
      clear hb hcs hia hacc hbuf hdg hfr hh ha hz
      go_wp2
      refine ⟨⟨Sg.hexd z :: acc, m, y / 16, (m : Int) - 1, by go_num, by go_num, by omega, Lib.hid ⟨rfl, HH.out.1.put (hex_at16 _ hy16 _), ?_, HH.out.2.2.setCell _ _ (fun h => absurd h (Nat.lt_irrefl _))⟩⟩, by simp [intOf] <;> omega⟩
      rw [HH.out.2.1, Sg.digs, List.append_assoc, HZ.out]
      rfl
theorem log_nm (x : Nat) : (⟨#[108, 111, 103, 46]⟩ : ByteArray) ++ strOfNums (Sg.digs 16 x) = nmOf x := by
  apply bl_inj
  rw [bl_nm]
  unfold bl
  rw [ByteArray.data_append, Array.toList_append, List.map_append]
  have h := bl_strOf (digs_byte 16 x)
  unfold bl at h
  rw [h]
  rfl
set_option maxRecDepth 100000 in
theorem rname_calls (w : World) (x : Nat) (hx : x < 18446744073709551616) :
    Calls Tryz.prog 50 #[.int .u64 x] w fun e w' => e = .returned (.string (nmOf x)) ∧ Frm (fun _ => False) w w' := by
  have KD := Lib.hid (rdigits_calls w x hx)
  have hsz : (strOfNums (Sg.digs 16 x)).size = 16 := by rw [strOfNums_size, Sg.digs_length]
  have hln := log_nm x
  have hno : ¬ (9223372036854775807 : Nat) < 4 + 16 := by decide
  generalize strOfNums (Sg.digs 16 x) = ds at *
  have HL := Lib.hid hln
  clear hln
  go_enter Tryz.func50, Tryz.ntmps50
  go_wp2_with (go_at_call 111; (with_reducible refine KD.out.mono ?_); rintro e w1 ⟨rfl, hf⟩; have H1 := Lib.hid hf; clear hf)
  go_ret
  refine ⟨?_, H1.out⟩
  rw [← HL.out]
  rfl
/-- What Number answers. -/
def NumV (s : ByteArray) : Value := if s.size = 16 then (match Sg.numOf (bl s) 0 with | some n => .tuple #[.int .u64 n, .bool true] | none => .tuple #[.int .u64 0, .bool false]) else .tuple #[.int .u64 0, .bool false]
end Go.Proofs.YtpckkdjdjkjapaaGreatDoor.Dw

/- Walks: the reference's Number and First. -/
namespace Go.Proofs.YtpckkdjdjkjapaaGreatDoor.Dw
open Go.RowKit Go.ChangeMaps Go.Proofs.YtpckkdjdjkjapaaGreatDoor.Mp Go.Proofs.YtpckkdjdjkjapaaGreatDoor.Dm Go.Proofs.YtpckkdjdjkjapaaGreatDoor.Da Go.Shelf
open Go.Proofs.YtpckkdjdjkjapaaGreatDoorW.PrintWords (ReadsInt string_of_reads)
set_option linter.unusedVariables false
set_option linter.unusedSimpArgs false
set_option linter.unusedSectionVars false
theorem bl_at (s : ByteArray) (k : Nat) (hk : k < s.size) : (bl s).drop k = (((s[k]'hk).toNat : Nat) : Int) :: (bl s).drop (k + 1) := by
  have h1 : k < (bl s).length := by rw [bl_length]; exact hk
  rw [List.drop_eq_getElem_cons h1]
  congr 1
  unfold bl at h1 ⊢
  rw [List.getElem_map, Array.getElem_toList]
  rfl
theorem num_step {s : ByteArray} {k n c d : Nat} (h : Sg.numOf ((bl s).take k) 0 = some n) (hc : (bl s).drop k = (c : Int) :: (bl s).drop (k + 1)) (hd : Sg.hexv (c : Int) = some d) : Sg.numOf ((bl s).take (k + 1)) 0 = some (16 * n + d) := by
  have e : (bl s).take (k + 1) = (bl s).take k ++ (c : Int) :: [] := by
    have h1 : (bl s).take (k + 1) = (bl s).take k ++ ((bl s).drop k).take 1 := by rw [List.take_add]
    rw [h1, hc]
    rfl
  rw [e, Sg.numOf_append, h]
  simp [Sg.numOf, hd]
theorem hex_num {c : Nat} (h : 48 ≤ c ∧ c ≤ 57) : Sg.hexv (c : Int) = some (c - 48) := by
  unfold Sg.hexv
  rw [if_pos (by omega)]
  congr 1
  omega
theorem hex_let {c : Nat} (h : 97 ≤ c ∧ c ≤ 102) : Sg.hexv (c : Int) = some (c - 87) := by
  unfold Sg.hexv
  rw [if_neg (by omega), if_pos (by omega)]
  congr 1
  omega
theorem hex_no {c : Nat} (h1 : ¬ (48 ≤ c ∧ c ≤ 57)) (h2 : ¬ (97 ≤ c ∧ c ≤ 102)) : Sg.hexv (c : Int) = none := by
  unfold Sg.hexv
  rw [if_neg (by omega), if_neg (by omega)]
set_option maxHeartbeats 4000000 in
set_option maxRecDepth 100000 in
theorem rnumber_calls (w : World) (s : ByteArray) : Calls Tryz.prog 110 #[.string s] w fun e w' => e = .returned (NumV s) ∧ w' = w := by
  by_cases hs : s.size = 16
  · have HV : Hid (NumV s = match Sg.numOf (bl s) 0 with | some n => .tuple #[.int .u64 n, .bool true] | none => .tuple #[.int .u64 0, .bool false]) := Lib.hid (by unfold NumV; rw [if_pos hs] <;> rfl)
    go_enter Tryz.func110, Tryz.ntmps110
    go_wp2
    go_loop [4, 5] (fun vn vi => ∃ (k n : Nat) (a : Int), vn = .int .u64 a ∧ vi = .int .i64 k ∧ k ≤ 16 ∧ Hid (a = (n : Int) ∧ Sg.numOf ((bl s).take k) 0 = some n ∧ n < 16 ^ k))
      (fun _ vi => 16 - (intOf vi).toNat)
    case atStart => exact ⟨0, 0, 0, rfl, rfl, by omega, Lib.hid ⟨rfl, by simp [Sg.numOf], by decide⟩⟩
    case round =>
      obtain ⟨k, n, a, rfl, rfl, hk, hh⟩ := hrel
      by_cases hkn : k < 16
      · have a0 : 0 ≤ a := by have := hh.out.1; omega
        have a1 : a < 1152921504606846976 := by
          have h1 := hh.out.2.2
          have h2 : 16 ^ k ≤ 16 ^ 15 := Nat.pow_le_pow_right (by decide) (by omega)
          have h3 : (16 : Nat) ^ 15 = 1152921504606846976 := by decide
          have := hh.out.1
          omega
        have hks : k < s.size := by omega
        obtain ⟨c, hc⟩ : ∃ c : Nat, c = (s[k]'hks).toNat := ⟨_, rfl⟩
        have hc256 : c < 256 := by rw [hc]; exact UInt8.toNat_lt _
        have HD : Hid ((bl s).drop k = (c : Int) :: (bl s).drop (k + 1)) := Lib.hid (by rw [hc]; exact bl_at s k hks)
        have hcr : (s[k]'hks).toNat = c := hc.symm
        clear hc
        by_cases hdig : 48 ≤ c ∧ c ≤ 57
        · obtain ⟨hd0, hd1⟩ := hdig
          have HX : Hid (16 * a + ((c : Int) - 48) = ((16 * n + (c - 48) : Nat) : Int) ∧ Sg.numOf ((bl s).take (k + 1)) 0 = some (16 * n + (c - 48)) ∧ 16 * n + (c - 48) < 16 ^ (k + 1)) := Lib.hid ⟨by have := hh.out.1; omega, num_step hh.out.2.1 HD.out (hex_num ⟨hd0, hd1⟩), by have := hh.out.2.2; rw [Nat.pow_succ]; omega⟩
          clear hh
          go_wp2
          exact ⟨⟨k + 1, 16 * n + (c - 48), 16 * a + ((c : Int) - 48), (by first | rfl | (congr 1; omega)), (by first | rfl | (congr 1; omega)), by omega, HX⟩, by simp [intOf] <;> omega⟩
        · by_cases hlet : 97 ≤ c ∧ c ≤ 102
          · obtain ⟨hl0, hl1⟩ := hlet
            have HX : Hid (16 * a + ((c : Int) - 97) + 10 = ((16 * n + (c - 87) : Nat) : Int) ∧ Sg.numOf ((bl s).take (k + 1)) 0 = some (16 * n + (c - 87)) ∧ 16 * n + (c - 87) < 16 ^ (k + 1)) := Lib.hid ⟨by have := hh.out.1; omega, num_step hh.out.2.1 HD.out (hex_let ⟨hl0, hl1⟩), by have := hh.out.2.2; rw [Nat.pow_succ]; omega⟩
            clear hh
            go_wp2
            exact ⟨⟨k + 1, 16 * n + (c - 87), 16 * a + ((c : Int) - 97) + 10, (by first | rfl | (congr 1; omega)), (by first | rfl | (congr 1; omega)), by omega, HX⟩, by simp [intOf] <;> omega⟩
          · have HN : Hid (Sg.numOf (bl s) 0 = none) := Lib.hid (bad16 HD.out (hex_no hdig hlet))
            clear hh
            go_wp2
            all_goals go_ret2
            all_goals exact ⟨by rw [HV.out, HN.out]; rfl, rfl⟩
      · have hkk : k = 16 := by omega
        subst hkk
        have HT : Hid ((bl s).take 16 = bl s) := Lib.hid (List.take_of_length_le (by rw [bl_length]; omega))
        obtain ⟨ha, hn, _⟩ := hh.out
        subst ha
        rw [HT.out] at hn
        have HN := Lib.hid hn
        clear hh hn
        go_wp2
        go_ret2
        exact ⟨by rw [HV.out, HN.out]; rfl, rfl⟩
  · have hne : ((s.size : Int) == 16) = false := by simp; omega
    have HV : Hid (NumV s = .tuple #[.int .u64 0, .bool false]) := Lib.hid (by unfold NumV; rw [if_neg hs])
    go_enter Tryz.func110, Tryz.ntmps110
    go_wp2
    go_ret2
    exact ⟨by rw [HV.out]; rfl, rfl⟩
theorem bl_ext (s : ByteArray) (a b : Nat) : bl (s.extract a b) = ((bl s).take b).drop a := by
  unfold bl
  rw [ByteArray.data_extract, Array.toList_extract, List.extract_eq_take_drop, List.map_take, List.map_drop, List.drop_take]
theorem num_lt {s : ByteArray} {n : Nat} (h : Sg.numOf (bl s) 0 = some n) (hs : s.size = 16) : n < 18446744073709551616 := by
  have h1 := (Sg.digs_numOf _ _ _ h).2
  rw [bl_length, hs] at h1
  have h2 : (16 : Nat) ^ 16 = 18446744073709551616 := by decide
  rw [h2] at h1
  omega
theorem logP_list : logP.toList = ([108, 111, 103, 46] : List UInt8) := by rw [Lib.toList_data]; rfl
set_option maxHeartbeats 1000000 in
set_option maxRecDepth 100000 in
theorem rfirst_calls (w : World) (s : ByteArray) : Calls Tryz.prog 49 #[.string s] w fun e w' => e = .returned (FirstV s) ∧ w' = w := by
  by_cases hs : s.size = 20
  · have hl20 : (bl s).length = 20 := by rw [bl_length, hs]
    by_cases hp : s.extract 0 4 = logP
    · have hstr : ((s.extract 0 4).toList == ([108, 111, 103, 46] : List UInt8)) = true := by rw [hp, logP_list]; rfl
      obtain ⟨t, ht⟩ : ∃ t, t = s.extract 4 20 := ⟨_, rfl⟩
      have htb : bl t = (bl s).drop 4 := by rw [ht, bl_ext, List.take_of_length_le (by omega)]
      have hts : t.size = 16 := by rw [← bl_length, htb, List.length_drop]; omega
      have hlog : (bl s).take 4 = Sg.logB := by
        have := bl_ext s 0 4
        rw [hp, List.drop_zero] at this
        rw [← this]
        rfl
      have KN := Lib.hid (rnumber_calls · t)
      have hNV : NumV t = match Sg.numOf (bl t) 0 with | some n => .tuple #[.int .u64 n, .bool true] | none => .tuple #[.int .u64 0, .bool false] := by unfold NumV; rw [if_pos hts] <;> rfl
      have hF : Sg.firstOf (bl s) = match Sg.numOf (bl t) 0 with | some x => if 1 ≤ x ∧ x ≤ 4611686018427387904 then some x else none | none => none := by
        unfold Sg.firstOf
        rw [if_pos ⟨hl20, hlog⟩, ← htb]
        rfl
      have hext : s.extract 4 20 = t := ht.symm
      cases hn : Sg.numOf (bl t) 0 with
      | none =>
        rw [hn] at hNV hF
        simp only [] at hNV hF
        have KN2 := Lib.hid (fun w => KN.out w)
        simp only [hNV] at KN2
        have HF := Lib.hid hF
        clear hF hNV hn KN htb hlog hl20 hp ht hts
        go_enter Tryz.func49, Tryz.ntmps49
        go_wp2_with (go_at_call 110; (with_reducible refine (KN2.out _).mono ?_); rintro e w1 ⟨rfl, hu⟩; rw [hu]; clear hu)
        go_ret2
        refine ⟨?_, rfl⟩
        unfold FirstV
        rw [HF.out]
        rfl
      | some n =>
        rw [hn] at hNV hF
        simp only [] at hNV hF
        have hn64 := num_lt hn hts
        have KN2 := Lib.hid (fun w => KN.out w)
        simp only [hNV] at KN2
        have HF := Lib.hid hF
        clear hF hNV hn KN htb hlog hl20 hp ht hts
        by_cases h1 : 1 ≤ n
        · have hd1 : decide ((n : Int) < 1) = false := decide_eq_false (by omega)
          by_cases h2 : n ≤ 4611686018427387904
          · have hd2 : decide ((4611686018427387904 : Int) < (n : Int)) = false := decide_eq_false (by omega)
            have HF2 := Lib.hid (HF.out.trans (if_pos ⟨h1, h2⟩))
            go_enter Tryz.func49, Tryz.ntmps49
            go_wp2_with (go_at_call 110; (with_reducible refine (KN2.out _).mono ?_); rintro e w1 ⟨rfl, hu⟩; rw [hu]; clear hu)
            go_ret2
            refine ⟨?_, rfl⟩
            unfold FirstV
            rw [HF2.out]
            rfl
          · have hd2 : decide ((4611686018427387904 : Int) < (n : Int)) = true := decide_eq_true (by omega)
            have HF2 := Lib.hid (HF.out.trans (if_neg (fun h => h2 h.2)))
            go_enter Tryz.func49, Tryz.ntmps49
            go_wp2_with (go_at_call 110; (with_reducible refine (KN2.out _).mono ?_); rintro e w1 ⟨rfl, hu⟩; rw [hu]; clear hu)
            go_ret2
            refine ⟨?_, rfl⟩
            unfold FirstV
            rw [HF2.out]
            rfl
        · have hd1 : decide ((n : Int) < 1) = true := decide_eq_true (by omega)
          have HF2 := Lib.hid (HF.out.trans (if_neg (fun h => h1 h.1)))
          go_enter Tryz.func49, Tryz.ntmps49
          go_wp2_with (go_at_call 110; (with_reducible refine (KN2.out _).mono ?_); rintro e w1 ⟨rfl, hu⟩; rw [hu]; clear hu)
          go_ret2
          refine ⟨?_, rfl⟩
          unfold FirstV
          rw [HF2.out]
          rfl
    · have hstr : ((s.extract 0 4).toList == ([108, 111, 103, 46] : List UInt8)) = false := logP_list ▸ strBeq (s.extract 0 4) logP _ ⟨fun h => absurd h Bool.false_ne_true, fun h => absurd h hp⟩
      have HF : Hid (Sg.firstOf (bl s) = none) := Lib.hid (first_no1 (fun h => hp (bl_inj (by rw [bl_ext, List.drop_zero, h]; rfl))))
      clear hp hl20
      go_enter Tryz.func49, Tryz.ntmps49
      go_wp2
      go_ret2
      refine ⟨?_, rfl⟩
      unfold FirstV
      rw [HF.out]
      rfl
  · have hne : ((s.size : Int) == 20) = false := by simp; omega
    have HF : Hid (Sg.firstOf (bl s) = none) := Lib.hid (by unfold Sg.firstOf; rw [if_neg (fun h => hs (by rw [← bl_length]; exact h.1))])
    go_enter Tryz.func49, Tryz.ntmps49
    go_wp2
    go_ret2
    refine ⟨?_, rfl⟩
    unfold FirstV
    rw [HF.out]
    rfl
end Go.Proofs.YtpckkdjdjkjapaaGreatDoor.Dw
