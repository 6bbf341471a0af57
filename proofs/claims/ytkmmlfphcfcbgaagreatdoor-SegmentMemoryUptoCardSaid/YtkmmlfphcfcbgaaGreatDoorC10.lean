/- A part of the proof of segmentMemoryUpto_holds: Bd. No condition. -/
import Derived.Test.YtkmmlfphcfcbgaaGreatDoorC09

/- Walks: Decode. -/
namespace Go.Proofs.YtkmmlfphcfcbgaaGreatDoor.Dw
open Go.RowKit Go.ChangeMaps Go.Proofs.YtkmmlfphcfcbgaaGreatDoor.Mp Go.Proofs.YtkmmlfphcfcbgaaGreatDoor.Dm Go.Proofs.YtkmmlfphcfcbgaaGreatDoor.Da
open Go.Proofs.YtkmmlfphcfcbgaaGreatDoorW.PrintWords (Kd ReadsInt own_weaken string_of_reads)
set_option linter.unusedVariables false
set_option linter.unusedSimpArgs false
set_option linter.unusedSectionVars false
theorem byteNat {x : Int} (h : 0 ≤ x ∧ x < 256) : ((UInt8.ofNat x.toNat).toNat : Int) = x := by
  have : x.toNat < 256 := by omega
  rw [UInt8.toNat_ofNat_of_lt' this]; omega
theorem strInj {xs ys : List Int} (hx : ∀ x, x ∈ xs → 0 ≤ x ∧ x < 256) (hy : ∀ x, x ∈ ys → 0 ≤ x ∧ x < 256) (h : strOfNums xs = strOfNums ys) : xs = ys := by
  have h1 : (strOfNums xs).data.toList = (strOfNums ys).data.toList := by rw [h]
  rw [strOfNums_data, strOfNums_data] at h1
  have h2 := congrArg (List.map fun b : UInt8 => (b.toNat : Int)) h1
  rw [List.map_map, List.map_map] at h2
  have e : ∀ zs : List Int, (∀ x, x ∈ zs → 0 ≤ x ∧ x < 256) → zs.map ((fun b : UInt8 => (b.toNat : Int)) ∘ fun n : Int => UInt8.ofNat n.toNat) = zs := by
    intro zs hz
    conv => rhs; rw [← List.map_id zs]
    exact List.map_congr_left fun x hx => byteNat (hz x hx)
  rw [e xs hx, e ys hy] at h2
  exact h2
theorem strBeq (a b : ByteArray) (r : Bool) (hr : r = true ↔ a = b) : (ByteArray.toList a == ByteArray.toList b) = r := by
  rw [Bool.eq_iff_iff, beq_iff_eq, ByteArray.toList_eq, ByteArray.toList_eq, hr]
  exact ⟨fun h => ByteArray.ext (Array.toList_inj.1 h), fun h => by rw [h]⟩
theorem strSize (xs : List Int) : (strOfNums xs).size = xs.length := by
  show (strOfNums xs).data.size = _
  rw [← Array.length_toList, strOfNums_data, List.length_map]
theorem magicBeq {xs : List Int} (hb : ∀ x, x ∈ xs → 0 ≤ x ∧ x < 256) (r : Bool) (hr : r = true ↔ xs.take 4 = Sg.magic) : ((strOfNums (xs.take 4)).toList == ([84, 66, 48, 49] : List UInt8)) = r := by
  have h := strBeq (strOfNums (xs.take 4)) ⟨#[84, 66, 48, 49]⟩ r (hr.trans ⟨fun h => by rw [h]; rfl, fun h => strInj (fun x hx => hb x (List.mem_of_mem_take hx)) (by decide) (h.trans (show (⟨#[84, 66, 48, 49]⟩ : ByteArray) = strOfNums Sg.magic from rfl))⟩)
  rw [ByteArray.toList_eq ⟨#[84, 66, 48, 49]⟩] at h
  exact h
/-- What Decode answers, in memory. -/
def DecAns (w w' : World) (eb : Nat → Addr) (e : Ending) : Option (Nat × List Sg.Bytes) → Prop
  | some p => ∃ v, e = .returned (.tuple #[.int .u64 (p.1 : Nat), v, .nilIface]) ∧ RecsOwn w' w.heap.size v p.2
  | none => ∃ c, c ≠ 0 ∧ e = .returned (.tuple #[.int .u64 0, .slice none 0 0, errV eb c])
theorem subReads {w : World} {g o n : Nat} {xs : List Int} (h : ReadsInt w .u8 (some ⟨g, o, none⟩) xs.length xs) (k m : Nat) (hk : k + m ≤ xs.length) (hm : m = n) : ReadsInt w .u8 (some ⟨g, o + k, none⟩) ((xs.drop k).take m).length ((xs.drop k).take m) := by
  obtain ⟨_, h2, h3⟩ := h
  refine reads_mk (by rw [List.length_take, List.length_drop]; omega) fun i hi => ?_
  rw [List.length_take, List.length_drop] at hi
  obtain ⟨a, ha, hc⟩ := h3 (by omega)
  cases ha
  have := hc (k + i) (by omega)
  rw [addO] at this
  rw [Nat.add_assoc, this, List.getD_eq_getElem?_getD, List.getD_eq_getElem?_getD, List.getElem?_take_of_lt (by omega), List.getElem?_drop]
set_option maxHeartbeats 1000000 in
set_option maxRecDepth 100000 in
theorem decode_magic {B : Nat} {w : World} {eb : Nat → Addr} {Le : List Err} (he : ErrsAt B w eb Le) (h3 : 3 ∈ Le) (g o c : Nat) (xs : List Int) (hx : ReadsInt w .u8 (some ⟨g, o, none⟩) xs.length xs) (h512 : xs.length = 512) (hc : 512 ≤ c) (hb : ∀ x, x ∈ xs → 0 ≤ x ∧ x < 256) (hm : xs.take 4 ≠ Sg.magic) :
    Calls Tryz.prog 103 #[.slice (some ⟨g, o, none⟩) 512 c] w fun e w' => Frm (fun _ => False) w w' ∧ DecAns w w' eb e none := by
  have c3 : w.cell? ⟨8, 0, none⟩ = some (.iface 311 (.pointer (some (eb 3)))) := he.var 3 h3
  have hr4 := subReads hx 0 4 (by omega) rfl
  rw [List.drop_zero, Nat.add_zero] at hr4
  have hl4 : (xs.take 4).length = 4 := by rw [List.length_take]; omega
  have cv := string_of_reads (P := Tryz.prog) (w := w) (c := c) Tryz.underlying36 Tryz.underlying5 Tryz.underlying9 hr4
  rw [hl4] at cv
  have hne := magicBeq hb false ⟨fun h => by (cases h), fun h => absurd h hm⟩
  have hcI : (512 : Int) ≤ (c : Int) := by omega
  have h4c : (4 : Int) ≤ (c : Int) := by omega
  clear hx h512 hb hm hr4 hl4 he h3
  go_enter Tryz.func103, Tryz.ntmps103
  go_wp2
  go_quiet (fail)
  go_wp2
  go_ret3
  exact ⟨(by repeat (first | (with_reducible assumption) | (with_reducible exact Frm.refl _ _) | (with_reducible apply Frm.drewN) | (with_reducible apply Frm.drew) | (with_reducible apply Frm.alloc) | (with_reducible refine Frm.setCell ?_ _ _ (fun h => absurd h (by first | (simp; done) | (simp; omega)))))), 3, by decide, rfl⟩
theorem head_parts {xs : List Int} {hl : xs.length = 512} : ((xs.drop 4).take 14).length = 14 ∧ ((xs.drop 4).take 14).take 8 = (xs.drop 4).take 8 ∧ (((xs.drop 4).take 14).drop 8).take 2 = (xs.drop 12).take 2 ∧ ((((xs.drop 4).take 14).drop 8).drop 2).take 4 = (xs.drop 14).take 4 ∧ (xs.drop 18).length = 494 := by
  refine ⟨by rw [List.length_take, List.length_drop]; omega, ?_, ?_, ?_, by rw [List.length_drop]; omega⟩
  · rw [List.take_take]; rfl
  · rw [List.drop_take, List.take_take, List.drop_drop]; rfl
  · rw [List.drop_take, List.drop_take, List.take_take, List.drop_drop, List.drop_drop]; rfl
set_option maxHeartbeats 2000000 in
set_option maxRecDepth 100000 in
theorem decode_sum {B : Nat} {w : World} {eb : Nat → Addr} {Le : List Err} (h : CrcAt B w) (he : ErrsAt B w eb Le) (h2 : 2 ∈ Le) (h3 : 3 ∈ Le) (h5 : 5 ∈ Le) (hBw : B ≤ w.heap.size) (g o c : Nat) (xs : List Int) (hx : ReadsInt w .u8 (some ⟨g, o, none⟩) xs.length xs) (h512 : xs.length = 512) (hc : 512 ≤ c) (hb : ∀ x, x ∈ xs → 0 ≤ x ∧ x < 256) (hm : xs.take 4 = Sg.magic) (hs : Sg.ofLe ((xs.drop 14).take 4) ≠ Sg.crc (Sg.unsummed xs)) :
    Calls Tryz.prog 103 #[.slice (some ⟨g, o, none⟩) 512 c] w fun e w' => Frm (fun _ => False) w w' ∧ DecAns w w' eb e none := by
  have c5 : ∀ W, Frm (fun _ => False) w W → W.cell? ⟨9, 0, none⟩ = some (.iface 311 (.pointer (some (eb 5)))) := fun W hW => frmC hW (he.var 5 h5)
  have C5 := Lib.hid c5
  have hr4 := subReads hx 0 4 (by omega) rfl
  rw [List.drop_zero, Nat.add_zero] at hr4
  have hl4 : (xs.take 4).length = 4 := by rw [List.length_take]; omega
  have cv := string_of_reads (P := Tryz.prog) (w := w) (c := c) Tryz.underlying36 Tryz.underlying5 Tryz.underlying9 hr4
  rw [hl4] at cv
  have hne := magicBeq hb true ⟨fun _ => hm, fun _ => rfl⟩
  have hcI : (512 : Int) ≤ (c : Int) := by omega
  have h4c : (4 : Int) ≤ (c : Int) := by omega
  have h18c : (18 : Int) ≤ (c : Int) := by omega
  have hc4 : ¬ c = 4 := by omega
  have hc18 : ¬ c = 18 := by omega
  obtain ⟨d1, d2, d3, d4, d5⟩ := head_parts (hl := h512)
  have hy := subReads hx 4 14 (by omega) rfl
  rw [d1] at hy
  have K1 : Hid (∀ W', Frm (fun _ => False) w W' → Calls Tryz.prog 81 #[.slice (some ⟨g, o + 4, none⟩) 14 (c - 4)] W' fun e w' => ∃ rb, e = .returned (.pointer (some ⟨rb, 0, none⟩)) ∧ RdAt w' rb eb ((xs.drop 4).take 14) 0 ∧ Frm (fun _ => False) w w' ∧ w.heap.size ≤ rb) := by
    refine Lib.hid fun W' hW => (newReader_calls W' (some ⟨g, o + 4, none⟩) 14 (c - 4) _ eb (by rw [d1]; exact reads_frm hy hW) d1 (by decide) (by decide)).mono ?_
    rintro e w' ⟨rb, r1, r2, r3, r4⟩
    exact ⟨rb, r1, r2, hW.trans r3 (fun _ _ h => h), Nat.le_trans hW.size r4⟩
  have hyb : ∀ x, x ∈ (xs.drop 4).take 14 → 0 ≤ x ∧ x < 256 := fun x hx => hb x (List.mem_of_mem_drop (List.mem_of_mem_take hx))
  have HY := Lib.hid (And.intro d1 hyb)
  obtain ⟨first, hfst⟩ : ∃ first, first = Sg.ofLe ((xs.drop 4).take 8) := ⟨_, rfl⟩
  obtain ⟨n, hn⟩ : ∃ n, n = Sg.ofLe ((xs.drop 12).take 2) := ⟨_, rfl⟩
  obtain ⟨told, htold⟩ : ∃ told, told = Sg.ofLe ((xs.drop 14).take 4) := ⟨_, rfl⟩
  have hf64 : first < 18446744073709551616 := by rw [hfst]; exact ofLe_small (n := 8) (fun x hx => hb x (List.mem_of_mem_drop hx))
  have hn64 : n < 65536 := by rw [hn]; exact ofLe_small (n := 2) (fun x hx => hb x (List.mem_of_mem_drop hx))
  have hu1 : Sg.ofLe (((xs.drop 4).take 14).take 8) = first := by rw [d2, hfst]
  have hu2 : Sg.ofLe ((((xs.drop 4).take 14).drop 8).take 2) = n := by rw [d3, hn]
  have hu3 : Sg.ofLe (((((xs.drop 4).take 14).drop 8).drop 2).take 4) = told := by rw [d4, htold]
  have HU := Lib.hid (And.intro hu1 (And.intro hu2 hu3))
  generalize (xs.drop 4).take 14 = ys at *
  have KS : Hid (∀ W' F, Frm F w W' → (∀ k, k < w.heap.size → ¬ F k) → Calls Tryz.prog 141 #[.slice (some ⟨g, o, none⟩) 512 c] W' fun e w' => e = .returned (.int .u32 (Sg.crc (Sg.unsummed xs) : Nat)) ∧ Frm (fun _ => False) W' w') := by
    refine Lib.hid fun W' F hW hF => ?_
    have hW0 : Frm (fun _ => False) w W' := hW.mono fun k hk hf => hF k hk hf
    exact blockSum_calls (h.frm hW0 (fun _ h => h.elim)) g o c xs (reads_frm hx hW0) h512 hc hb
  generalize hsum : Sg.crc (Sg.unsummed xs) = s at *
  have hts : ((told : Int) != (s : Int)) = true := by
    rw [← htold] at hs
    rw [bne_iff_ne]
    intro e
    exact hs (by omega)
  clear hx h512 hb hm hr4 hl4 he h3 h5 h2 h hy hyb hfst hn htold hs c5 d2 d3 d4 d1 d5 hu1 hu2 hu3
  go_enter Tryz.func103, Tryz.ntmps103
  go_wp2_with (first
    | (go_at_call 81; (with_reducible refine (K1.out _ (Frm.refl _ _)).mono ?_); rintro e w1 ⟨rb, rfl, hrd, hf, hge⟩; have K2 := Lib.hid (rU64 hrd (by rw [HY.out.1]; decide) HY.out.2); rw [HU.out.1] at K2; have F1 := Lib.hid hf; clear hrd hf)
    | (go_at_call 131; (with_reducible refine K2.out.mono ?_); rintro e w2 ⟨rfl, hrd, hf⟩; have K3 := Lib.hid (rU16 hrd (by rw [List.length_drop, HY.out.1]; decide) (fun x hx => HY.out.2 x (List.mem_of_mem_drop hx))); rw [HU.out.2.1] at K3; have F2 := Lib.hid (F1.out.trans hf (fun k hk e => by omega)); clear hrd hf)
    | (go_at_call 143; (with_reducible refine K3.out.mono ?_); rintro e w3 ⟨rfl, hrd, hf⟩; have K4 := Lib.hid (rU32 hrd (by rw [List.length_drop, List.length_drop, HY.out.1]; decide) (fun x hx => HY.out.2 x (List.mem_of_mem_drop (List.mem_of_mem_drop hx)))); rw [HU.out.2.2] at K4; have F3 := Lib.hid (F2.out.trans hf (fun k hk e => by omega)); clear hrd hf)
    | (go_at_call 82; (with_reducible refine K4.out.mono ?_); rintro e w4 ⟨rfl, hrd, hf⟩; have F4 := Lib.hid (F3.out.trans hf (fun k hk e => by omega)); clear hrd hf)
    | (go_at_call 141; (with_reducible refine (KS.out _ _ F4.out (fun k hk hf => hf)).mono ?_); rintro e w5 ⟨rfl, hf⟩; have F5 := Lib.hid (F4.out.trans hf (fun _ _ h => h)); have c55 := C5.out _ F5.out; clear hf)
    )
  go_quiet (fail)
  go_wp2
  go_ret3
  have hf5 := F5.out
  exact ⟨(by repeat (first | (with_reducible assumption) | (with_reducible exact Frm.refl _ _) | (with_reducible apply Frm.drewN) | (with_reducible apply Frm.drew) | (with_reducible apply Frm.alloc) | (with_reducible refine Frm.setCell ?_ _ _ (fun h => absurd h (by first | (simp; done) | (simp; omega)))))), 5, by decide, rfl⟩
set_option maxHeartbeats 2000000 in
set_option maxRecDepth 100000 in
theorem decode_none {B : Nat} {w : World} {eb : Nat → Addr} {Le : List Err} (h : CrcAt B w) (he : ErrsAt B w eb Le) (h2 : 2 ∈ Le) (h3 : 3 ∈ Le) (h5 : 5 ∈ Le) (hBw : B ≤ w.heap.size) (g o c : Nat) (xs : List Int) (hx : ReadsInt w .u8 (some ⟨g, o, none⟩) xs.length xs) (h512 : xs.length = 512) (hc : 512 ≤ c) (hb : ∀ x, x ∈ xs → 0 ≤ x ∧ x < 256) (hm : xs.take 4 = Sg.magic) (hs : Sg.ofLe ((xs.drop 14).take 4) = Sg.crc (Sg.unsummed xs)) (hnum : Sg.ofLe ((xs.drop 12).take 2) = 0) :
    Calls Tryz.prog 103 #[.slice (some ⟨g, o, none⟩) 512 c] w fun e w' => Frm (fun _ => False) w w' ∧ DecAns w w' eb e none := by
  have c3 : ∀ W, Frm (fun _ => False) w W → W.cell? ⟨8, 0, none⟩ = some (.iface 311 (.pointer (some (eb 3)))) := fun W hW => frmC hW (he.var 3 h3)
  have C3 := Lib.hid c3
  have hr4 := subReads hx 0 4 (by omega) rfl
  rw [List.drop_zero, Nat.add_zero] at hr4
  have hl4 : (xs.take 4).length = 4 := by rw [List.length_take]; omega
  have cv := string_of_reads (P := Tryz.prog) (w := w) (c := c) Tryz.underlying36 Tryz.underlying5 Tryz.underlying9 hr4
  rw [hl4] at cv
  have hne := magicBeq hb true ⟨fun _ => hm, fun _ => rfl⟩
  have hcI : (512 : Int) ≤ (c : Int) := by omega
  have h4c : (4 : Int) ≤ (c : Int) := by omega
  have h18c : (18 : Int) ≤ (c : Int) := by omega
  have hc4 : ¬ c = 4 := by omega
  have hc18 : ¬ c = 18 := by omega
  obtain ⟨d1, d2, d3, d4, d5⟩ := head_parts (hl := h512)
  have hy := subReads hx 4 14 (by omega) rfl
  rw [d1] at hy
  have K1 : Hid (∀ W', Frm (fun _ => False) w W' → Calls Tryz.prog 81 #[.slice (some ⟨g, o + 4, none⟩) 14 (c - 4)] W' fun e w' => ∃ rb, e = .returned (.pointer (some ⟨rb, 0, none⟩)) ∧ RdAt w' rb eb ((xs.drop 4).take 14) 0 ∧ Frm (fun _ => False) w w' ∧ w.heap.size ≤ rb) := by
    refine Lib.hid fun W' hW => (newReader_calls W' (some ⟨g, o + 4, none⟩) 14 (c - 4) _ eb (by rw [d1]; exact reads_frm hy hW) d1 (by decide) (by decide)).mono ?_
    rintro e w' ⟨rb, r1, r2, r3, r4⟩
    exact ⟨rb, r1, r2, hW.trans r3 (fun _ _ h => h), Nat.le_trans hW.size r4⟩
  have hyb : ∀ x, x ∈ (xs.drop 4).take 14 → 0 ≤ x ∧ x < 256 := fun x hx => hb x (List.mem_of_mem_drop (List.mem_of_mem_take hx))
  have HY := Lib.hid (And.intro d1 hyb)
  obtain ⟨first, hfst⟩ : ∃ first, first = Sg.ofLe ((xs.drop 4).take 8) := ⟨_, rfl⟩
  obtain ⟨n, hn⟩ : ∃ n, n = Sg.ofLe ((xs.drop 12).take 2) := ⟨_, rfl⟩
  obtain ⟨told, htold⟩ : ∃ told, told = Sg.ofLe ((xs.drop 14).take 4) := ⟨_, rfl⟩
  have hf64 : first < 18446744073709551616 := by rw [hfst]; exact ofLe_small (n := 8) (fun x hx => hb x (List.mem_of_mem_drop hx))
  have hn64 : n < 65536 := by rw [hn]; exact ofLe_small (n := 2) (fun x hx => hb x (List.mem_of_mem_drop hx))
  have hu1 : Sg.ofLe (((xs.drop 4).take 14).take 8) = first := by rw [d2, hfst]
  have hu2 : Sg.ofLe ((((xs.drop 4).take 14).drop 8).take 2) = n := by rw [d3, hn]
  have hu3 : Sg.ofLe (((((xs.drop 4).take 14).drop 8).drop 2).take 4) = told := by rw [d4, htold]
  have HU := Lib.hid (And.intro hu1 (And.intro hu2 hu3))
  generalize (xs.drop 4).take 14 = ys at *
  have KS : Hid (∀ W' F, Frm F w W' → (∀ k, k < w.heap.size → ¬ F k) → Calls Tryz.prog 141 #[.slice (some ⟨g, o, none⟩) 512 c] W' fun e w' => e = .returned (.int .u32 (Sg.crc (Sg.unsummed xs) : Nat)) ∧ Frm (fun _ => False) W' w') := by
    refine Lib.hid fun W' F hW hF => ?_
    have hW0 : Frm (fun _ => False) w W' := hW.mono fun k hk hf => hF k hk hf
    exact blockSum_calls (h.frm hW0 (fun _ h => h.elim)) g o c xs (reads_frm hx hW0) h512 hc hb
  generalize hsum : Sg.crc (Sg.unsummed xs) = s at *
  have hts : told = s := by rw [htold]; exact hs
  have hn0 : n = 0 := by rw [hn]; exact hnum
  clear hx h512 hb hm hr4 hl4 he h3 h5 h2 h hy hyb hfst hn htold hs d2 d3 d4 d1 d5 hu1 hu2 hu3 hnum c3
  subst hts
  subst hn0
  go_enter Tryz.func103, Tryz.ntmps103
  go_wp2_with (first
    | (go_at_call 81; (with_reducible refine (K1.out _ (Frm.refl _ _)).mono ?_); rintro e w1 ⟨rb, rfl, hrd, hf, hge⟩; have K2 := Lib.hid (rU64 hrd (by rw [HY.out.1]; decide) HY.out.2); rw [HU.out.1] at K2; have F1 := Lib.hid hf; clear hrd hf)
    | (go_at_call 131; (with_reducible refine K2.out.mono ?_); rintro e w2 ⟨rfl, hrd, hf⟩; have K3 := Lib.hid (rU16 hrd (by rw [List.length_drop, HY.out.1]; decide) (fun x hx => HY.out.2 x (List.mem_of_mem_drop hx))); rw [HU.out.2.1] at K3; have F2 := Lib.hid (F1.out.trans hf (fun k hk e => by omega)); clear hrd hf)
    | (go_at_call 143; (with_reducible refine K3.out.mono ?_); rintro e w3 ⟨rfl, hrd, hf⟩; have K4 := Lib.hid (rU32 hrd (by rw [List.length_drop, List.length_drop, HY.out.1]; decide) (fun x hx => HY.out.2 x (List.mem_of_mem_drop (List.mem_of_mem_drop hx)))); rw [HU.out.2.2] at K4; have F3 := Lib.hid (F2.out.trans hf (fun k hk e => by omega)); clear hrd hf)
    | (go_at_call 82; (with_reducible refine K4.out.mono ?_); rintro e w4 ⟨rfl, hrd, hf⟩; have F4 := Lib.hid (F3.out.trans hf (fun k hk e => by omega)); clear hrd hf)
    | (go_at_call 141; (with_reducible refine (KS.out _ _ F4.out (fun k hk hf => hf)).mono ?_); rintro e w5 ⟨rfl, hf⟩; have F5 := Lib.hid (F4.out.trans hf (fun _ _ h => h)); have c33 := C3.out _ F5.out; clear hf)
    )
  go_quiet (fail)
  go_wp2
  go_ret3
  have hf5 := F5.out
  exact ⟨(by repeat (first | (with_reducible assumption) | (with_reducible exact Frm.refl _ _) | (with_reducible apply Frm.drewN) | (with_reducible apply Frm.drew) | (with_reducible apply Frm.alloc) | (with_reducible refine Frm.setCell ?_ _ _ (fun h => absurd h (by first | (simp; done) | (simp; omega)))))), 3, by decide, rfl⟩
set_option maxHeartbeats 2000000 in
set_option maxRecDepth 100000 in
theorem decode_nums {B : Nat} {w : World} {eb : Nat → Addr} {Le : List Err} (h : CrcAt B w) (he : ErrsAt B w eb Le) (h2 : 2 ∈ Le) (h3 : 3 ∈ Le) (h5 : 5 ∈ Le) (hBw : B ≤ w.heap.size) (g o c : Nat) (xs : List Int) (hx : ReadsInt w .u8 (some ⟨g, o, none⟩) xs.length xs) (h512 : xs.length = 512) (hc : 512 ≤ c) (hb : ∀ x, x ∈ xs → 0 ≤ x ∧ x < 256) (hm : xs.take 4 = Sg.magic) (hs : Sg.ofLe ((xs.drop 14).take 4) = Sg.crc (Sg.unsummed xs)) (hnum : ¬ Sg.numbers (Sg.ofLe ((xs.drop 4).take 8)) (Sg.ofLe ((xs.drop 12).take 2))) (hn1 : 1 ≤ Sg.ofLe ((xs.drop 12).take 2)) :
    Calls Tryz.prog 103 #[.slice (some ⟨g, o, none⟩) 512 c] w fun e w' => Frm (fun _ => False) w w' ∧ DecAns w w' eb e none := by
  have c3 : ∀ W, Frm (fun _ => False) w W → W.cell? ⟨8, 0, none⟩ = some (.iface 311 (.pointer (some (eb 3)))) := fun W hW => frmC hW (he.var 3 h3)
  have C3 := Lib.hid c3
  have hr4 := subReads hx 0 4 (by omega) rfl
  rw [List.drop_zero, Nat.add_zero] at hr4
  have hl4 : (xs.take 4).length = 4 := by rw [List.length_take]; omega
  have cv := string_of_reads (P := Tryz.prog) (w := w) (c := c) Tryz.underlying36 Tryz.underlying5 Tryz.underlying9 hr4
  rw [hl4] at cv
  have hne := magicBeq hb true ⟨fun _ => hm, fun _ => rfl⟩
  have hcI : (512 : Int) ≤ (c : Int) := by omega
  have h4c : (4 : Int) ≤ (c : Int) := by omega
  have h18c : (18 : Int) ≤ (c : Int) := by omega
  have hc4 : ¬ c = 4 := by omega
  have hc18 : ¬ c = 18 := by omega
  obtain ⟨d1, d2, d3, d4, d5⟩ := head_parts (hl := h512)
  have hy := subReads hx 4 14 (by omega) rfl
  rw [d1] at hy
  have K1 : Hid (∀ W', Frm (fun _ => False) w W' → Calls Tryz.prog 81 #[.slice (some ⟨g, o + 4, none⟩) 14 (c - 4)] W' fun e w' => ∃ rb, e = .returned (.pointer (some ⟨rb, 0, none⟩)) ∧ RdAt w' rb eb ((xs.drop 4).take 14) 0 ∧ Frm (fun _ => False) w w' ∧ w.heap.size ≤ rb) := by
    refine Lib.hid fun W' hW => (newReader_calls W' (some ⟨g, o + 4, none⟩) 14 (c - 4) _ eb (by rw [d1]; exact reads_frm hy hW) d1 (by decide) (by decide)).mono ?_
    rintro e w' ⟨rb, r1, r2, r3, r4⟩
    exact ⟨rb, r1, r2, hW.trans r3 (fun _ _ h => h), Nat.le_trans hW.size r4⟩
  have hyb : ∀ x, x ∈ (xs.drop 4).take 14 → 0 ≤ x ∧ x < 256 := fun x hx => hb x (List.mem_of_mem_drop (List.mem_of_mem_take hx))
  have HY := Lib.hid (And.intro d1 hyb)
  obtain ⟨first, hfst⟩ : ∃ first, first = Sg.ofLe ((xs.drop 4).take 8) := ⟨_, rfl⟩
  obtain ⟨n, hn⟩ : ∃ n, n = Sg.ofLe ((xs.drop 12).take 2) := ⟨_, rfl⟩
  obtain ⟨told, htold⟩ : ∃ told, told = Sg.ofLe ((xs.drop 14).take 4) := ⟨_, rfl⟩
  have hf64 : first < 18446744073709551616 := by rw [hfst]; exact ofLe_small (n := 8) (fun x hx => hb x (List.mem_of_mem_drop hx))
  have hn64 : n < 65536 := by rw [hn]; exact ofLe_small (n := 2) (fun x hx => hb x (List.mem_of_mem_drop hx))
  have hu1 : Sg.ofLe (((xs.drop 4).take 14).take 8) = first := by rw [d2, hfst]
  have hu2 : Sg.ofLe ((((xs.drop 4).take 14).drop 8).take 2) = n := by rw [d3, hn]
  have hu3 : Sg.ofLe (((((xs.drop 4).take 14).drop 8).drop 2).take 4) = told := by rw [d4, htold]
  have HU := Lib.hid (And.intro hu1 (And.intro hu2 hu3))
  generalize (xs.drop 4).take 14 = ys at *
  have KS : Hid (∀ W' F, Frm F w W' → (∀ k, k < w.heap.size → ¬ F k) → Calls Tryz.prog 141 #[.slice (some ⟨g, o, none⟩) 512 c] W' fun e w' => e = .returned (.int .u32 (Sg.crc (Sg.unsummed xs) : Nat)) ∧ Frm (fun _ => False) W' w') := by
    refine Lib.hid fun W' F hW hF => ?_
    have hW0 : Frm (fun _ => False) w W' := hW.mono fun k hk hf => hF k hk hf
    exact blockSum_calls (h.frm hW0 (fun _ h => h.elim)) g o c xs (reads_frm hx hW0) h512 hc hb
  generalize hsum : Sg.crc (Sg.unsummed xs) = s at *
  have hts : told = s := by rw [htold]; exact hs
  rw [← hn, ← hfst] at hnum
  rw [← hn] at hn1
  have hnI : ¬ (n : Int) = 0 := by omega
  have KN : Hid (∀ W, Calls Tryz.prog 95 #[.int .u64 first, .int .i64 n] W fun e w' => e = .returned (.bool false) ∧ w' = W) := by
    refine Lib.hid fun W => ?_
    have := numbers_calls W first n hf64 hn1 (by omega)
    rw [decide_eq_false hnum] at this
    exact this
  clear hx h512 hb hm hr4 hl4 he h3 h5 h2 h hy hyb hfst hn htold hs d2 d3 d4 d1 d5 hu1 hu2 hu3 hnum c3
  subst hts
  go_enter Tryz.func103, Tryz.ntmps103
  go_wp2_with (first
    | (go_at_call 81; (with_reducible refine (K1.out _ (Frm.refl _ _)).mono ?_); rintro e w1 ⟨rb, rfl, hrd, hf, hge⟩; have K2 := Lib.hid (rU64 hrd (by rw [HY.out.1]; decide) HY.out.2); rw [HU.out.1] at K2; have F1 := Lib.hid hf; clear hrd hf)
    | (go_at_call 131; (with_reducible refine K2.out.mono ?_); rintro e w2 ⟨rfl, hrd, hf⟩; have K3 := Lib.hid (rU16 hrd (by rw [List.length_drop, HY.out.1]; decide) (fun x hx => HY.out.2 x (List.mem_of_mem_drop hx))); rw [HU.out.2.1] at K3; have F2 := Lib.hid (F1.out.trans hf (fun k hk e => by omega)); clear hrd hf)
    | (go_at_call 143; (with_reducible refine K3.out.mono ?_); rintro e w3 ⟨rfl, hrd, hf⟩; have K4 := Lib.hid (rU32 hrd (by rw [List.length_drop, List.length_drop, HY.out.1]; decide) (fun x hx => HY.out.2 x (List.mem_of_mem_drop (List.mem_of_mem_drop hx)))); rw [HU.out.2.2] at K4; have F3 := Lib.hid (F2.out.trans hf (fun k hk e => by omega)); clear hrd hf)
    | (go_at_call 82; (with_reducible refine K4.out.mono ?_); rintro e w4 ⟨rfl, hrd, hf⟩; have F4 := Lib.hid (F3.out.trans hf (fun k hk e => by omega)); clear hrd hf)
    | (go_at_call 141; (with_reducible refine (KS.out _ _ F4.out (fun k hk hf => hf)).mono ?_); rintro e w5 ⟨rfl, hf⟩; have F5 := Lib.hid (F4.out.trans hf (fun _ _ h => h)); have c33 := C3.out _ F5.out; clear hf)
    | (go_at_call 95; (with_reducible refine (KN.out _).mono ?_); rintro e w5 ⟨rfl, rfl⟩)
    )
  go_quiet (fail)
  go_wp2
  go_ret3
  have hf5 := F5.out
  exact ⟨(by repeat (first | (with_reducible assumption) | (with_reducible exact Frm.refl _ _) | (with_reducible apply Frm.drewN) | (with_reducible apply Frm.drew) | (with_reducible apply Frm.alloc) | (with_reducible refine Frm.setCell ?_ _ _ (fun h => absurd h (by first | (simp; done) | (simp; omega)))))), 3, by decide, rfl⟩
theorem takeRecs_step (m : Nat) (b : List Int) : Sg.takeRecs (m + 1) b = (rdText b).bind fun p => if 200 < p.1.length then none else (Sg.takeRecs m p.2).map fun q => (p.1 :: q.1, q.2) := by
  conv => lhs; rw [Sg.takeRecs]
  unfold rdText
  by_cases h1 : b.length < 2
  · rw [if_pos h1, if_pos h1]; rfl
  · rw [if_neg h1, if_neg h1]
    by_cases h2 : (b.drop 2).length < Sg.ofLe (b.take 2)
    · rw [if_pos (Or.inl h2), if_pos h2]; rfl
    · rw [if_neg h2]
      simp only [Option.bind_some]
      have hl : ((b.drop 2).take (Sg.ofLe (b.take 2))).length = Sg.ofLe (b.take 2) := by rw [List.length_take]; omega
      rw [hl]
      by_cases h3 : 200 < Sg.ofLe (b.take 2)
      · rw [if_pos (Or.inr h3), if_pos h3]
      · rw [if_neg (by omega), if_neg h3]
        cases Sg.takeRecs m ((b.drop 2).drop (Sg.ofLe (b.take 2))) with
        | none => rfl
        | some p => rfl
theorem rdText_drop {xs b r b' : List Int} {k : Nat} (hb : b = xs.drop k) (hk : k ≤ xs.length) (h : rdText b = some (r, b')) : ∃ k', k ≤ k' ∧ k' ≤ xs.length ∧ b' = xs.drop k' ∧ ∀ x, x ∈ r → x ∈ xs := by
  unfold rdText at h
  split at h
  · cases h
  · rename_i h1
    split at h
    · cases h
    · rename_i h2
      simp only [Option.some.injEq, Prod.mk.injEq] at h
      refine ⟨k + 2 + Sg.ofLe (b.take 2), by omega, ?_, ?_, fun x hx => ?_⟩
      · rw [hb, List.length_drop, List.length_drop] at h2
        rw [hb, List.length_drop] at h1
        rw [hb]; omega
      · rw [← h.2]
        conv => lhs; rw [hb, List.drop_drop, List.drop_drop]
        rw [← hb, Nat.add_assoc]
      · rw [← h.1] at hx
        have := List.mem_of_mem_drop (List.mem_of_mem_take hx)
        rw [hb] at this
        exact List.mem_of_mem_drop this
/-- What stands behind the head. -/
def decTail (first n : Nat) (zs : List Int) : Option (Nat × List Sg.Bytes) :=
  match Sg.takeRecs n zs with
  | some (rs, rest) => if rest.all (fun x => decide (x = 0)) then some (first, rs) else none
  | none => none
theorem reader_t {w : World} {rb : Nat} {eb : Nat → Addr} {xs : List Int} {f : Err} (h : RdAt w rb eb xs f) : ∀ k, k < w.heap.size → k = rb → ∀ cs t fr, w.heap[k]? = some (.cells cs t fr) → t ≠ 5 ∧ t ≠ 36 := by
  rintro k _ rfl cs t fr e
  obtain ⟨v, h1, _⟩ := h.ex
  rw [h1] at e
  have := Option.some.inj e
  simp only [Obj.cells.injEq] at this
  rw [← this.2.1]
  exact ⟨by decide, by decide⟩
theorem own_block8 {w : World} {base n : Nat} {v : Value} {us : List Value} {k : Nat} (h : w.ownsRow base 36 1 v n us) (hk : v.ownBlock = some k) : ∃ cs, w.heap[k]? = some (.cells cs 36 (0, 0)) := by
  rcases h.2 with ⟨hv, _⟩ | ⟨g, cap, cur, hv, _, hh, _⟩
  · rw [hv] at hk; cases hk
  · rw [hv] at hk
    obtain rfl : g = k := by simpa [Value.ownBlock] using hk
    exact ⟨cur, hh⟩
theorem recsInfo : (Tryz.prog.info? 36).map (fun i => (i.zero, i.size, i.bytes)) = some (some (.slice none 0 0), 1, 24) := by kernel_rfl
set_option maxHeartbeats 2000000 in
set_option maxRecDepth 100000 in
theorem decode_main {B : Nat} {w : World} {eb : Nat → Addr} {Le : List Err} (h : CrcAt B w) (he : ErrsAt B w eb Le) (h2 : 2 ∈ Le) (h3 : 3 ∈ Le) (h5 : 5 ∈ Le) (hBw : B ≤ w.heap.size) (g o c : Nat) (xs : List Int) (hx : ReadsInt w .u8 (some ⟨g, o, none⟩) xs.length xs) (h512 : xs.length = 512) (hc : 512 ≤ c) (hb : ∀ x, x ∈ xs → 0 ≤ x ∧ x < 256) (hm : xs.take 4 = Sg.magic) (hs : Sg.ofLe ((xs.drop 14).take 4) = Sg.crc (Sg.unsummed xs)) (hnum : Sg.numbers (Sg.ofLe ((xs.drop 4).take 8)) (Sg.ofLe ((xs.drop 12).take 2))) :
    Calls Tryz.prog 103 #[.slice (some ⟨g, o, none⟩) 512 c] w fun e w' => Frm (fun _ => False) w w' ∧ DecAns w w' eb e (decTail (Sg.ofLe ((xs.drop 4).take 8)) (Sg.ofLe ((xs.drop 12).take 2)) (xs.drop 18)) := by
  obtain ⟨iB, hiB, hzB, hzB1, hzB2⟩ := info_parts recsInfo
  have hmx : maxLen = 9223372036854775807 := by decide
  have C3 : Hid (∀ W, Frm (fun _ => False) w W → W.cell? ⟨8, 0, none⟩ = some (.iface 311 (.pointer (some (eb 3))))) := Lib.hid fun W hW => frmC hW (he.var 3 h3)
  have HE := Lib.hid (And.intro he h2)
  have HXS := Lib.hid (And.intro hb (And.intro h512 hx))
  have hr4 := subReads hx 0 4 (by omega) rfl
  rw [List.drop_zero, Nat.add_zero] at hr4
  have hl4 : (xs.take 4).length = 4 := by rw [List.length_take]; omega
  have cv := string_of_reads (P := Tryz.prog) (w := w) (c := c) Tryz.underlying36 Tryz.underlying5 Tryz.underlying9 hr4
  rw [hl4] at cv
  have hne := magicBeq hb true ⟨fun _ => hm, fun _ => rfl⟩
  have hcI : (512 : Int) ≤ (c : Int) := by omega
  have h4c : (4 : Int) ≤ (c : Int) := by omega
  have h18c : (18 : Int) ≤ (c : Int) := by omega
  have hc4 : ¬ c = 4 := by omega
  have hc18 : ¬ c = 18 := by omega
  obtain ⟨d1, d2, d3, d4, d5⟩ := head_parts (hl := h512)
  have hy := subReads hx 4 14 (by omega) rfl
  rw [d1] at hy
  have K1 : Hid (∀ W', Frm (fun _ => False) w W' → Calls Tryz.prog 81 #[.slice (some ⟨g, o + 4, none⟩) 14 (c - 4)] W' fun e w' => ∃ rb, e = .returned (.pointer (some ⟨rb, 0, none⟩)) ∧ RdAt w' rb eb ((xs.drop 4).take 14) 0 ∧ Frm (fun _ => False) w w' ∧ w.heap.size ≤ rb) := by
    refine Lib.hid fun W' hW => (newReader_calls W' (some ⟨g, o + 4, none⟩) 14 (c - 4) _ eb (by rw [d1]; exact reads_frm hy hW) d1 (by decide) (by decide)).mono ?_
    rintro e w' ⟨rb, r1, r2, r3, r4⟩
    exact ⟨rb, r1, r2, hW.trans r3 (fun _ _ h => h), Nat.le_trans hW.size r4⟩
  have hyb : ∀ x, x ∈ (xs.drop 4).take 14 → 0 ≤ x ∧ x < 256 := fun x hx => hb x (List.mem_of_mem_drop (List.mem_of_mem_take hx))
  have HY := Lib.hid (And.intro d1 hyb)
  obtain ⟨first, hfst⟩ : ∃ first, first = Sg.ofLe ((xs.drop 4).take 8) := ⟨_, rfl⟩
  obtain ⟨n, hn⟩ : ∃ n, n = Sg.ofLe ((xs.drop 12).take 2) := ⟨_, rfl⟩
  obtain ⟨told, htold⟩ : ∃ told, told = Sg.ofLe ((xs.drop 14).take 4) := ⟨_, rfl⟩
  have hf64 : first < 18446744073709551616 := by rw [hfst]; exact ofLe_small (n := 8) (fun x hx => hb x (List.mem_of_mem_drop hx))
  have hn64 : n < 65536 := by rw [hn]; exact ofLe_small (n := 2) (fun x hx => hb x (List.mem_of_mem_drop hx))
  have hu1 : Sg.ofLe (((xs.drop 4).take 14).take 8) = first := by rw [d2, hfst]
  have hu2 : Sg.ofLe ((((xs.drop 4).take 14).drop 8).take 2) = n := by rw [d3, hn]
  have hu3 : Sg.ofLe (((((xs.drop 4).take 14).drop 8).drop 2).take 4) = told := by rw [d4, htold]
  have HU := Lib.hid (And.intro hu1 (And.intro hu2 hu3))
  generalize (xs.drop 4).take 14 = ys at *
  have KS : Hid (∀ W' F, Frm F w W' → (∀ k, k < w.heap.size → ¬ F k) → Calls Tryz.prog 141 #[.slice (some ⟨g, o, none⟩) 512 c] W' fun e w' => e = .returned (.int .u32 (Sg.crc (Sg.unsummed xs) : Nat)) ∧ Frm (fun _ => False) W' w') := by
    refine Lib.hid fun W' F hW hF => ?_
    have hW0 : Frm (fun _ => False) w W' := hW.mono fun k hk hf => hF k hk hf
    exact blockSum_calls (h.frm hW0 (fun _ h => h.elim)) g o c xs (reads_frm hx hW0) h512 hc hb
  generalize hsum : Sg.crc (Sg.unsummed xs) = s at *
  have hts : told = s := by rw [htold]; exact hs
  rw [← hn, ← hfst] at hnum
  have hn1 : 1 ≤ n := hnum.2.1
  have hnI : ¬ (n : Int) = 0 := by omega
  have KN : Hid (∀ W, Calls Tryz.prog 95 #[.int .u64 first, .int .i64 n] W fun e w' => e = .returned (.bool true) ∧ w' = W) := by
    refine Lib.hid fun W => ?_
    have := numbers_calls W first n hf64 hn1 (by omega)
    rw [decide_eq_true hnum] at this
    exact this
  have hz := subReads hx 18 494 (by omega) rfl
  have hzt : (xs.drop 18).take 494 = xs.drop 18 := List.take_of_length_le (by rw [d5]; exact Nat.le_refl _)
  rw [hzt] at hz
  have K6 : Hid (∀ W', Frm (fun _ => False) w W' → Calls Tryz.prog 81 #[.slice (some ⟨g, o + 18, none⟩) 494 (c - 18)] W' fun e w' => ∃ rb, e = .returned (.pointer (some ⟨rb, 0, none⟩)) ∧ RdAt w' rb eb (xs.drop 18) 0 ∧ Frm (fun _ => False) w w' ∧ w.heap.size ≤ rb) := by
    refine Lib.hid fun W' hW => (newReader_calls W' (some ⟨g, o + 18, none⟩) 494 (c - 18) _ eb (reads_frm hz hW) d5 (by decide) (by decide)).mono ?_
    rintro e w' ⟨rb, r1, r2, r3, r4⟩
    exact ⟨rb, r1, r2, hW.trans r3 (fun _ _ h => h), Nat.le_trans hW.size r4⟩
  rw [← hn, ← hfst]
  clear hx h512 hb hm hr4 hl4 he h3 h5 h2 h hy hyb hfst hn htold hs d2 d3 d4 d1 d5 hu1 hu2 hu3 hnum hz hzt
  subst hts
  go_enter Tryz.func103, Tryz.ntmps103
  go_wp2_with (first
    | (go_at_call 81; (with_reducible refine (K1.out _ (Frm.refl _ _)).mono ?_); rintro e w1 ⟨rb, rfl, hrd, hf, hge⟩; have K2 := Lib.hid (rU64 hrd (by rw [HY.out.1]; decide) HY.out.2); rw [HU.out.1] at K2; have F1 := Lib.hid hf; clear hrd hf)
    | (go_at_call 131; (with_reducible refine K2.out.mono ?_); rintro e w2 ⟨rfl, hrd, hf⟩; have K3 := Lib.hid (rU16 hrd (by rw [List.length_drop, HY.out.1]; decide) (fun x hx => HY.out.2 x (List.mem_of_mem_drop hx))); rw [HU.out.2.1] at K3; have F2 := Lib.hid (F1.out.trans hf (fun k hk e => by omega)); clear hrd hf)
    | (go_at_call 143; (with_reducible refine K3.out.mono ?_); rintro e w3 ⟨rfl, hrd, hf⟩; have K4 := Lib.hid (rU32 hrd (by rw [List.length_drop, List.length_drop, HY.out.1]; decide) (fun x hx => HY.out.2 x (List.mem_of_mem_drop (List.mem_of_mem_drop hx)))); rw [HU.out.2.2] at K4; have F3 := Lib.hid (F2.out.trans hf (fun k hk e => by omega)); clear hrd hf)
    | (go_at_call 82; (with_reducible refine K4.out.mono ?_); rintro e w4 ⟨rfl, hrd, hf⟩; have F4 := Lib.hid (F3.out.trans hf (fun k hk e => by omega)); clear hrd hf)
    | (go_at_call 141; (with_reducible refine (KS.out _ _ F4.out (fun k hk hf => hf)).mono ?_); rintro e w5 ⟨rfl, hf⟩; have F5 := Lib.hid (F4.out.trans hf (fun _ _ h => h)); clear hf)
    | (go_at_call 95; (with_reducible refine (KN.out _).mono ?_); rintro e w5 ⟨rfl, rfl⟩)
    | (go_at_call 81; (with_reducible refine (K6.out _ F5.out).mono ?_); rintro e w6 ⟨rb2, rfl, hrd, hf, hge2⟩; have H6 := Lib.hid (And.intro hrd hf); clear hrd hf))
  obtain ⟨zs, hzs⟩ : ∃ zs, zs = xs.drop 18 := ⟨_, rfl⟩
  have HZ := Lib.hid hzs
  rw [← hzs] at H6
  clear hzs
  go_loopw [9, 56] (fun v iv wr => ∃ (i : Nat) (done : List Sg.Bytes) (rest : List Int) (k : Nat), iv = .int .i64 (i : Nat) ∧ i ≤ n ∧ done.length = i ∧ Sg.takeRecs n zs = (Sg.takeRecs (n - i) rest).map (fun p => (done ++ p.1, p.2)) ∧ rest = xs.drop k ∧ k ≤ 512 ∧ RecsOwn wr w.heap.size v done ∧ RdAt wr rb2 eb rest 0 ∧ Frm (fun _ => False) w wr) (fun _ iv _ => n - (intOf iv).toNat)
  case atStart =>
    refine ⟨0, [], zs, 18, rfl, Nat.zero_le _, rfl, ?_, HZ.out, by decide, RecsOwn.nil _ _, H6.out.1, H6.out.2⟩
    rw [Nat.sub_zero]
    cases Sg.takeRecs n zs with
    | none => rfl
    | some p => simp
  case round =>
    obtain ⟨i, done, rest, k, rfl, hi, hdl, htk, hrest, hk, hrow, hrd, hfr⟩ := hrel
    have HFR := Lib.hid hfr
    have hrb : ∀ x, x ∈ rest → 0 ≤ x ∧ x < 256 := fun x hx => by rw [hrest] at hx; exact HXS.out.1 x (List.mem_of_mem_drop hx)
    by_cases hlt : i < n
    · have KT := Lib.hid (rText hrd (HE.out.1.frm hfr (fun _ h => h.elim)) (Nat.le_trans hBw hge2) HE.out.2 hrb)
      obtain ⟨m, hm⟩ : ∃ m, n - i = m + 1 := ⟨n - i - 1, by omega⟩
      rw [hm, takeRecs_step] at htk
      cases hrt : rdText rest with
      | none =>
        rw [hrt] at KT htk
        have hnone : Hid (Sg.takeRecs n zs = none) := Lib.hid (by rw [htk]; rfl)
        have KT2 : Hid (Calls Tryz.prog 144 #[.pointer (some ⟨rb2, 0, none⟩)] wr fun e w' => e = .returned (.string ⟨#[]⟩) ∧ RdAt w' rb2 eb rest 2 ∧ Frm (fun k => k = rb2) wr w') := KT
        clear KT htk hrow hrd hfr hrb hrt H6
        go_wp2_with (first
          | (go_at_call 144; (with_reducible refine KT2.out.mono ?_); rintro e w7 ⟨rfl, hrd, hf⟩; have KR := Lib.hid (rErr hrd); rw [errV_pos eb 2 (by decide)] at KR; have F7 := Lib.hid (HFR.out.trans hf (fun k hk e => by omega)); have c37 := C3.out _ F7.out; clear hrd hf)
          | (go_at_call 133; (with_reducible refine KR.out.mono ?_); rintro e w7 ⟨rfl, rfl⟩))
        go_quiet (fail)
        go_wp2
        go_ret3
        have hf7 := F7.out
        refine ⟨(by repeat (first | (with_reducible assumption) | (with_reducible exact Frm.refl _ _) | (with_reducible apply Frm.drewN) | (with_reducible apply Frm.drew) | (with_reducible apply Frm.alloc) | (with_reducible refine Frm.setCell ?_ _ _ (fun h => absurd h (by first | (simp; done) | (simp; omega)))))), ?_⟩
        unfold decTail
        rw [← HZ.out, hnone.out]
        exact ⟨3, by decide, rfl⟩
      | some p =>
        obtain ⟨r, b'⟩ := p
        rw [hrt] at KT htk
        obtain ⟨k', hk1, hk2, hb', hrx⟩ := rdText_drop hrest (by rw [HXS.out.2.1]; exact hk) hrt
        have KT2 : Hid (Calls Tryz.prog 144 #[.pointer (some ⟨rb2, 0, none⟩)] wr fun e w' => e = .returned (.string (strOfNums r)) ∧ RdAt w' rb2 eb b' 0 ∧ Frm (fun k => k = rb2) wr w') := KT
        have hsz := strSize r
        have HP := Lib.hid (And.intro hrow (And.intro hrx (And.intro hb' (And.intro hdl (And.intro htk hrd)))))
        have hk5 : k' ≤ 512 := by rw [HXS.out.2.1] at hk2; exact hk2
        clear KT hrow hrd hfr hrb hrt H6 hdl htk hrx hb' hrest hk2
        by_cases hrl : 200 < r.length
        · have hrlI : (200 : Int) < (r.length : Int) := by omega
          have hnone : Hid (Sg.takeRecs n zs = none) := by
            refine Lib.hid ?_
            rw [HP.out.2.2.2.2.1]
            simp only [Option.bind_some]
            rw [if_pos hrl]; rfl
          go_wp2_with (first
            | (go_at_call 144; (with_reducible refine KT2.out.mono ?_); rintro e w7 ⟨rfl, hrd, hf⟩; have KR := Lib.hid (rErr hrd); rw [errV_zero] at KR; have F7 := Lib.hid (HFR.out.trans hf (fun k hk e => by omega)); have c37 := C3.out _ F7.out; clear hrd hf)
            | (go_at_call 133; (with_reducible refine KR.out.mono ?_); rintro e w7 ⟨rfl, rfl⟩))
          go_quiet (fail)
          go_wp2
          go_ret3
          have hf7 := F7.out
          refine ⟨(by repeat (first | (with_reducible assumption) | (with_reducible exact Frm.refl _ _) | (with_reducible apply Frm.drewN) | (with_reducible apply Frm.drew) | (with_reducible apply Frm.alloc) | (with_reducible refine Frm.setCell ?_ _ _ (fun h => absurd h (by first | (simp; done) | (simp; omega)))))), ?_⟩
          unfold decTail
          rw [← HZ.out, hnone.out]
          exact ⟨3, by decide, rfl⟩
        · have hrlI : ¬ (200 : Int) < (r.length : Int) := by omega
          obtain ⟨p9, c9, rfl, hc9⟩ := HP.out.1.form
          have hdl9 := HP.out.2.2.2.1
          rw [hdl9] at HP ⊢
          obtain ⟨L, hL⟩ : ∃ L, L = r.length := ⟨_, rfl⟩
          rw [← hL] at hrlI hsz
          have HL := Lib.hid hL
          have hi1 : i + 1 ≤ maxLen := by omega
          have hb1 : (i + 1) * 24 ≤ 140737488355328 := by omega
          have hwr := HFR.out.size
          have HDL := Lib.hid hdl9
          clear hL hrl hdl9
          go_wp2_with (first
            | (go_at_call 144; (with_reducible refine KT2.out.mono ?_); rintro e w7 ⟨rfl, hrd, hf⟩; have KR := Lib.hid (rErr hrd); rw [errV_zero] at KR; obtain ⟨cap, W8, hcv, hf8, hs8, hr8⟩ := rec_new w7 r (fun x hx => HXS.out.1 x (HP.out.2.1 x hx)) (by have := HL.out; omega); rw [← HL.out] at hcv hr8; obtain ⟨us, gs, q1, q2, q3, q4⟩ := HP.out.1.frmT hf (reader_t HP.out.2.2.2.2.2); rw [HDL.out] at q1; have HQ := Lib.hid (And.intro q1 (And.intro q2 (And.intro q3 q4))); have hs7 := hf.size; have q8 : Hid (W8.ownsRow w.heap.size 36 1 (.slice p9 i c9) i us) := Lib.hid (own_frm q1 hf8); have H8 := Lib.hid (And.intro hf8 (And.intro hr8 (And.intro hrd (And.intro hf hs8)))); have hs88 : w7.heap.size < W8.heap.size := (by omega); clear hrd hf hf8 hr8 q1 q2 q3 q4 hs8)
            | (go_at_call 133; (with_reducible refine KR.out.mono ?_); rintro e w7 ⟨rfl, rfl⟩)
            | (at_builtin; refine wpList_append_own_at _ rfl _ _ _ rfl w.heap.size 36 iB (.slice none 0 0) 1 24 Tryz.underlying23 hiB hzB hzB1 hzB2 rfl (by omega) _ i us rfl (q8.out.alloc _) ⟨W8.heap.size, 0, none⟩ 1 1 [.slice (some ⟨w7.heap.size, 0, none⟩) L cap] rfl rfl (World.news_of_block (cs := #[.slice (some ⟨w7.heap.size, 0, none⟩) L cap]) (t := 36) (fr := (0, 0)) (heap_alloc_new W8 _)) (by simp [Value.oneCell']) hi1 hb1 (by simp; omega) ?_; intro v9 w9 hr9 hg9 hnil hat; have H9 := Lib.hid (And.intro hr9 hg9); clear hr9 hg9 hnil hat))
          obtain ⟨q1, q2, q3, q4⟩ := HQ.out
          obtain ⟨hf8, hr8, hrd8, hf7, hs8⟩ := H8.out
          obtain ⟨hr9, hg9⟩ := H9.out
          have hg9' : (W8.alloc (.cells #[.slice (some ⟨w7.heap.size, 0, none⟩) L cap] 36)).grownBy w9 (Value.slice p9 i c9).ownBlock := hg9
          have hlow : ∀ k, (Value.slice p9 i c9).ownBlock = some k → w.heap.size ≤ k ∧ k < w7.heap.size := fun k hk => own_low q1 hk
          have hkeep : ∀ k, k < W8.heap.size → some k ≠ (Value.slice p9 i c9).ownBlock → w9.heap[k]? = W8.heap[k]? := fun k hk hne => (hg9'.block k (by simp; omega) hne).trans (blk_alloc_lt hk)
          have hrec9 : Rec1 w9 w.heap.size w7.heap.size (.slice (some ⟨w7.heap.size, 0, none⟩) L cap) r := (hr8.keep (hkeep _ (by omega) (fun e => by have := hlow _ e.symm; omega))).weaken (by omega)
          have hfr9 : Frm (fun _ => False) w w9 := (((HFR.out.trans hf7 (fun k hk e => by omega)).trans hf8 (fun _ _ h => h)).alloc _).grown hg9' (fun k e hk => by have := hlow k e; omega)
          have hrow9 : RecsOwn w9 w.heap.size v9 (done ++ [r]) := by
            refine RecsOwn.snoc (w := w7) (v := .slice p9 i c9) (us := us) (gs := gs) (by rw [HDL.out]; exact q1) q2 q3 q4 (by rw [HDL.out]; exact hr9) (fun k hk hne => (hkeep k (by omega) hne).trans (hf8.block k hk id)) hrec9 (fun jj hj e => ?_)
            obtain ⟨u', g', h5, h6, h7⟩ := q4 jj hj
            rw [h6] at e
            have := h7.lt
            have := Option.some.inj e
            omega
          have hrd9 : RdAt w9 rb2 eb b' 0 := by
            obtain ⟨vv, hv1, hv2⟩ := (hrd8.frm hf8).ex
            have hne : ∀ k, k < W8.heap.size → (Value.slice p9 i c9).ownBlock = some k → ∃ cs, W8.heap[k]? = some (.cells cs 36 (0, 0)) := fun k hk e => own_block8 q8.out e
            refine ⟨vv, (hkeep rb2 (Da.blk_lt hv1) (fun e => ?_)).trans hv1, ?_⟩
            · obtain ⟨cs, hc⟩ := hne rb2 (Da.blk_lt hv1) e.symm
              rw [hv1] at hc
              simp at hc
            · obtain ⟨g1, o1, c1, cs1, e1, e2, e3, e4, e5⟩ := hv2
              refine ⟨g1, o1, c1, cs1, e1, e2, e3, (hkeep g1 (Da.blk_lt e4) (fun e => ?_)).trans e4, e5⟩
              obtain ⟨cs, hc⟩ := hne g1 (Da.blk_lt e4) e.symm
              rw [e4] at hc
              simp at hc
          refine ⟨⟨i + 1, done ++ [r], b', k', by go_num, by omega, by rw [List.length_append, HDL.out]; rfl, ?_, HP.out.2.2.1, hk5, hrow9, hrd9, hfr9⟩, by simp [intOf]; omega⟩
          rw [HP.out.2.2.2.2.1]
          simp only [Option.bind_some]
          rw [if_neg (by have := HL.out; omega), show n - (i + 1) = m by omega, Option.map_map]
          congr 1
          funext p
          simp
    · obtain rfl : i = n := by omega
      have htk2 : Sg.takeRecs i zs = some (done, rest) := by
        rw [htk, Nat.sub_self]
        simp [Sg.takeRecs]
      have KL := Lib.hid (rLeft hrd)
      obtain ⟨R, hR⟩ : ∃ R, R = rest.length := ⟨_, rfl⟩
      have hRk : R + k = 512 := by rw [hR, hrest, List.length_drop, HXS.out.2.1]; omega
      have hRI : (512 : Int) - (R : Int) = (k : Int) := by omega
      rw [← hR] at KL
      have hkI : (k : Int) ≤ 512 := by omega
      have hkc : (k : Int) ≤ (c : Int) := by omega
      obtain ⟨A3, hA3⟩ : ∃ A3 : Option Addr, (if c = k then (some ⟨g, o, none⟩ : Option Addr) else some ⟨g, o + k, none⟩) = A3 := ⟨_, rfl⟩
      have hrd3 : ReadsInt wr .u8 A3 rest.length rest := by
        by_cases hck : c = k
        · have hr0 : rest = [] := List.eq_nil_of_length_eq_zero (by omega)
          rw [hr0]; exact ⟨rfl, by decide, fun h => absurd h (by decide)⟩
        · rw [if_neg hck] at hA3
          rw [← hA3, hrest]
          have := subReads (reads_frm HXS.out.2.2 hfr) k (512 - k) (by rw [HXS.out.2.1]; omega) rfl
          rw [List.take_of_length_le (by rw [List.length_drop, HXS.out.2.1]; omega)] at this
          exact this
      have cv2 := string_of_reads (P := Tryz.prog) (w := wr) (c := c - k) Tryz.underlying36 Tryz.underlying5 Tryz.underlying9 hrd3
      rw [← hR, show R = 512 - k by omega] at cv2
      have KT : Hid (Calls Tryz.prog 146 #[.string (strOfNums rest), .string ⟨#[0]⟩] wr fun e w' => e = .returned (.string ⟨(Lib.trimB (strOfNums rest).data.toList 0).toArray⟩) ∧ ∃ q, w' = wr.drewN q) := by
        refine Lib.hid ((trim_calls (strOfNums rest) wr (by rw [strSize]; omega)).mono ?_)
        rintro e w' ⟨he, hw | hw⟩
        · exact ⟨he, 0, hw⟩
        · exact ⟨he, 1, hw⟩
      have hzero : (Lib.trimB (strOfNums rest).data.toList 0 = []) ↔ rest.all (fun x => decide (x = 0)) = true := by
        rw [trimB_nil, strOfNums_data, List.all_eq_true]
        constructor
        · intro h x hx
          have h1 := h _ (List.mem_map_of_mem (f := fun n : Int => UInt8.ofNat n.toNat) hx)
          have h2 := byteNat (hrb x hx)
          rw [h1] at h2
          exact decide_eq_true h2.symm
        · intro h u hu
          obtain ⟨x, hx, rfl⟩ := List.mem_map.1 hu
          have := of_decide_eq_true (h x hx)
          rw [this]; rfl
      have HOUT := Lib.hid (And.intro htk2 (And.intro hrow hfr))
      generalize Lib.trimB (strOfNums rest).data.toList 0 = T at *
      generalize strOfNums rest = S at *
      by_cases hall : rest.all (fun x => decide (x = 0)) = true
      · have hc3 : T.isEmpty = true := List.isEmpty_iff.2 (hzero.2 hall)
        have HALL := Lib.hid hall
        clear htk htk2 hrest hrow hrd hfr hrb hrd3 hzero hR hRk hall H6 hdl
        go_wp2_with (first
          | (go_at_call 145; (with_reducible refine KL.out.mono ?_); rintro e wr ⟨rfl, rfl⟩)
          | (go_at_call 146; (with_reducible refine KT.out.mono ?_); rintro e w7 ⟨rfl, q7, rfl⟩))
        go_ret3
        refine ⟨HOUT.out.2.2.drewN _, ?_⟩
        unfold decTail
        rw [← HZ.out, HOUT.out.1]
        simp only []
        rw [if_pos HALL.out]
        exact ⟨_, rfl, HOUT.out.2.1.frm ((Frm.refl _ _).drewN _)⟩
      · have hc3 : T.isEmpty = false := Bool.eq_false_iff.2 fun h => hall (hzero.1 (List.isEmpty_iff.1 h))
        have HALL := Lib.hid hall
        have c37 := C3.out _ hfr
        clear htk htk2 hrest hrow hrd hfr hrb hrd3 hzero hR hRk hall H6 hdl
        go_wp2_with (first
          | (go_at_call 145; (with_reducible refine KL.out.mono ?_); rintro e wr ⟨rfl, rfl⟩)
          | (go_at_call 146; (with_reducible refine KT.out.mono ?_); rintro e w7 ⟨rfl, q7, rfl⟩))
        go_quiet (fail)
        go_wp2
        go_ret3
        have hf7 := HOUT.out.2.2
        refine ⟨(by repeat (first | (with_reducible assumption) | (with_reducible exact Frm.refl _ _) | (with_reducible apply Frm.drewN) | (with_reducible apply Frm.drew) | (with_reducible apply Frm.alloc) | (with_reducible refine Frm.setCell ?_ _ _ (fun h => absurd h (by first | (simp; done) | (simp; omega)))))), ?_⟩
        unfold decTail
        rw [← HZ.out, HOUT.out.1]
        simp only []
        rw [if_neg HALL.out]
        exact ⟨3, by decide, rfl⟩
/-- Decode. -/
theorem decode_calls {B : Nat} {w : World} {eb : Nat → Addr} {Le : List Err} (h : CrcAt B w) (he : ErrsAt B w eb Le) (h2 : 2 ∈ Le) (h3 : 3 ∈ Le) (h5 : 5 ∈ Le) (hBw : B ≤ w.heap.size) (g o c : Nat) (xs : List Int) (hx : ReadsInt w .u8 (some ⟨g, o, none⟩) xs.length xs) (h512 : xs.length = 512) (hc : 512 ≤ c) (hb : ∀ x, x ∈ xs → 0 ≤ x ∧ x < 256) :
    Calls Tryz.prog 103 #[.slice (some ⟨g, o, none⟩) 512 c] w fun e w' => Frm (fun _ => False) w w' ∧ DecAns w w' eb e (Sg.decode Sg.crc xs) := by
  by_cases hm : xs.take 4 = Sg.magic
  · by_cases hs : Sg.ofLe ((xs.drop 14).take 4) = Sg.crc (Sg.unsummed xs)
    · by_cases hnum : Sg.numbers (Sg.ofLe ((xs.drop 4).take 8)) (Sg.ofLe ((xs.drop 12).take 2))
      · have e : Sg.decode Sg.crc xs = decTail (Sg.ofLe ((xs.drop 4).take 8)) (Sg.ofLe ((xs.drop 12).take 2)) (xs.drop 18) := by
          unfold Sg.decode decTail
          rw [if_pos ⟨h512, hm, hs, hnum⟩]
          generalize Sg.takeRecs (Sg.ofLe ((xs.drop 12).take 2)) (xs.drop 18) = q
          cases q <;> rfl
        rw [e]
        exact decode_main h he h2 h3 h5 hBw g o c xs hx h512 hc hb hm hs hnum
      · have e : Sg.decode Sg.crc xs = none := by unfold Sg.decode; rw [if_neg (fun h => hnum h.2.2.2)]
        rw [e]
        rcases Nat.eq_zero_or_pos (Sg.ofLe ((xs.drop 12).take 2)) with h0 | h0
        · exact decode_none h he h2 h3 h5 hBw g o c xs hx h512 hc hb hm hs h0
        · exact decode_nums h he h2 h3 h5 hBw g o c xs hx h512 hc hb hm hs hnum h0
    · have e : Sg.decode Sg.crc xs = none := by unfold Sg.decode; rw [if_neg (fun h => hs h.2.2.1)]
      rw [e]
      exact decode_sum h he h2 h3 h5 hBw g o c xs hx h512 hc hb hm hs
  · have e : Sg.decode Sg.crc xs = none := by unfold Sg.decode; rw [if_neg (fun h => hm h.2.1)]
    rw [e]
    exact decode_magic he h3 g o c xs hx h512 hc hb hm
end Go.Proofs.YtkmmlfphcfcbgaaGreatDoor.Dw
