/- A part of the proof of segmentSick_holds: Lk0, Lk, Read, Rg. No condition. -/
import Derived.Deep.Slices
import Derived.Deep.Fields
import Derived.ChangeSame
import Derived.SizedLaws
import Derived.Carry
import Derived.Test.YtpckkdjdjkjapaaGreatDoorC29

/- A segment that falls sick. -/
namespace Go.Proofs.YtpckkdjdjkjapaaGreatDoor.Dw
open Go.RowKit Go.ChangeMaps Go.Proofs.YtpckkdjdjkjapaaGreatDoor.Mp Go.Proofs.YtpckkdjdjkjapaaGreatDoor.Dm Go.Proofs.YtpckkdjdjkjapaaGreatDoor.Da Go.Shelf
open Go.Proofs.YtpckkdjdjkjapaaGreatDoor.Sg (SegS packE Over Group heavyN)
open Go.Proofs.YtpckkdjdjkjapaaGreatDoorW.PrintWords (ReadsInt string_of_reads)
set_option linter.unusedVariables false
set_option linter.unusedSimpArgs false
set_option linter.unusedSectionVars false
theorem GroupsAt.frm {w w' : World} {A : Option Addr} {gs : List Group} (h : GroupsAt w A gs) (hf : Frm (fun _ => False) w w') : GroupsAt w' A gs := by
  intro j hj
  obtain ⟨g, o, p, c, h1, h2, h3, h4, h5, h6, h7⟩ := h j hj
  exact ⟨g, o, p, c, h1, frmC hf h2, frmC hf h3, h4, h5, h6.frm hf, h7⟩
theorem _root_.Go.Proofs.YtpckkdjdjkjapaaGreatDoor.Da.ErrsAt.up {B B' : Nat} {w W : World} {eb : Nat → Addr} {L : List Err} (h : ErrsAt B w eb L) (hf : Frm (fun _ => False) w W) (hB : B ≤ B') : ErrsAt B' W eb L := by
  have k := h.frm hf (fun _ h => h.elim)
  exact ⟨k.var, k.blk, fun c hc => Nat.lt_of_lt_of_le (k.ebl c hc) hB, fun c hc => Nat.lt_of_lt_of_le (k.low c hc) hB, k.inj, k.six⟩
theorem Env.up {B B' : Nat} {w W : World} {L : List Err} (h : Env B w L) (hf : Frm (fun _ => False) w W) (hB : B ≤ B') : Env B' W L := by
  have k := h.frm hf (fun _ h => h.elim)
  exact ⟨⟨k.crc.cell, Nat.lt_of_lt_of_le k.crc.low hB⟩, k.tab, Nat.lt_of_lt_of_le k.tlow hB, k.sub⟩
/-- '[]byte{..}' behind a row of one's own making is marked: for any world. -/
theorem conv_new (W : World) (x : Int) : (convert 40 40 (.slice (some ⟨W.heap.size, 0, none⟩) 1 1)).run Tryz.prog (W.alloc (.cells #[.int .u8 x] 5)) = .ok (.slice (some ⟨W.heap.size, 0, none⟩) 1 1) ((W.alloc (.cells #[.int .u8 x] 5)).freeze ⟨W.heap.size, 1, none⟩ 1) := by
  have hsh : (W.alloc (.cells #[.int .u8 x] 5)).shape? W.heap.size = some (5, 1) := by unfold World.shape?; rw [blk_alloc]; rfl
  simp [convert, run_underlying Tryz.underlying40, run_underlying Tryz.underlying5, markStringish, hsh]
theorem frm_freeze {w W : World} (h : Frm (fun _ => False) w W) (a : Addr) (k : Nat) (ha : w.heap.size ≤ a.block) : Frm (fun _ => False) w (W.freeze a k) := by
  unfold World.freeze
  split
  · exact h
  · refine ⟨h.os, h.tape, h.output, by simpa using h.size, fun i hi hn => ?_⟩
    simp only [Array.getElem?_modify]
    rw [if_neg (by omega)]
    exact h.block i hi hn
section
variable {B : Nat} {w : World} {b : Nat} {lab : Nat → Option Lb} {eb : Nat → Addr} {L : List Err} {n m : Nat} {D : Disk} {sb : Nat} {s : SegS}
theorem arm9_calls (h : SegL B w b lab eb L n m D sb s) (part : Int) (v : Value) (hv : FailsAt w v [(1, part)]) :
    Calls Tryz.prog 46 #[dptr b, v, .int .i64 0] w fun e w' => e = .returned (.tuple #[]) ∧ NextS B w lab w' b eb L n m (D.first part) sb s := by
  refine (h.live.arm v [(1, part)] 0 hv (by show 1 ≤ _; decide)).mono ?_
  rintro e w' ⟨rfl, hn⟩
  exact ⟨rfl, h.turn hn⟩
end
/-- What the law asks of its groups. -/
structure GsOk (w : World) (A : Option Addr) (c : Nat) (gs : List Group) : Prop where
  at_ : GroupsAt w A gs
  cap : gs.length ≤ c
  len : gs.length ≤ 4611686018427387904
theorem heavy_ok {w : World} {A : Option Addr} {c : Nat} {gs : List Group} (h : GsOk w A c gs) : Calls Tryz.prog 33 #[.slice A gs.length c] w fun e w' => e = .returned (.bool (decide (4194304 < heavyN gs))) ∧ Frm (fun _ => False) w w' := heavy_calls w A c gs h.at_ h.cap h.len
theorem recs_sum : ∀ (gs : List Group) (rs : List Sg.Bytes), rs ∈ gs.map (·.1) → Sg.recSum rs ≤ Sg.groupSum gs
  | [], rs, h => by cases h
  | g :: gs, rs, h => by
    rw [Sg.groupSum_cons]
    rcases List.mem_cons.1 h with e | h
    · have e2 : rs = g.1 := e
      rw [e2]
      omega
    · have := recs_sum gs rs h
      omega
theorem recs_light {gs : List Group} {rs : List Sg.Bytes} (h : rs ∈ gs.map (·.1)) (hv : heavyN gs ≤ 4194304) : rs.length ≤ 4194304 := by
  have h1 := recs_sum gs rs h
  have h2 := Sg.heavy_sum hv
  have h3 := Sg.recSum_len rs
  omega
/-- At the head of the loop: a segment made anew; the disk runs. -/
structure SickAt (w0 W : World) (b : Nat) (eb : Nat → Addr) (L : List Err) (sb x : Nat) (D : Disk) : Prop where
  seg : ∃ lab, SegL w0.heap.size W b lab eb L 2 0 D sb ⟨nmOf x, x, 0, true, false⟩
  off : D.off = false
  frm : Frm (fun _ => False) w0 W
theorem SickAt.next {w0 W W' : World} {b : Nat} {lab : Nat → Option Lb} {eb : Nat → Addr} {L : List Err} {sb n m n' m' : Nat} {D D' : Disk} {s s' : SegS} (h : SegL w0.heap.size W b lab eb L n m D sb s) (hf : Frm (fun _ => False) w0 W) (hn : NextS w0.heap.size W lab W' b eb L n' m' D' sb s') : Frm (fun _ => False) w0 W' := by
  obtain ⟨lab', h1, h2, h3⟩ := hn
  exact hf.trans h2 (fun i hi hk => by
    rcases hk with rfl | hk
    · have := h.low; omega
    · have := h.live.base i hk; omega)
/-- Behind an error of the disk's: sick. -/
structure Ill (w0 W : World) (b : Nat) (eb : Nat → Addr) (L : List Err) (sb x : Nat) (D : Disk) : Prop where
  seg : ∃ lab n m s, SegL w0.heap.size W b lab eb L n m D sb s ∧ s.sick = true ∧ s.next = x ∧ s.blocks = 0
  frm : Frm (fun _ => False) w0 W
section
variable {w0 W : World} {b : Nat} {eb : Nat → Addr} {L : List Err} {sb x : Nat} {D : Disk}
theorem Ill.step (h : Ill w0 W b eb L sb x D) {W' : World} (hf : Frm (fun _ => False) W W') : Ill w0 W' b eb L sb x D := by
  obtain ⟨⟨lab, n, m, s, h1, h2⟩, h3⟩ := h
  exact ⟨⟨lab, n, m, s, h1.frm hf, h2⟩, h3.trans hf (fun _ _ h => h)⟩
theorem Ill.next (h : Ill w0 W b eb L sb x D) : Calls Tryz.prog 42 #[segP sb] W fun e w' => e = .returned (.int .u64 x) ∧ w' = W := by
  obtain ⟨⟨lab, n, m, s, h1, h2, h4, h5⟩, h3⟩ := h
  have := next_calls h1
  rwa [h4] at this
theorem Ill.blocks (h : Ill w0 W b eb L sb x D) : Calls Tryz.prog 38 #[segP sb] W fun e w' => e = .returned (.int .i64 0) ∧ w' = W := by
  obtain ⟨⟨lab, n, m, s, h1, h2, h4, h5⟩, h3⟩ := h
  have := blocks_calls h1
  rwa [h5] at this
theorem Ill.sync (h : Ill w0 W b eb L sb x D) : Calls Tryz.prog 47 #[segP sb] W fun e w' => e = .returned (errV eb 13) ∧ w' = W := by
  obtain ⟨⟨lab, n, m, s, h1, h2, h4, h5⟩, h3⟩ := h
  exact ssync_sick h1 h2
theorem Ill.cut (h : Ill w0 W b eb L sb x D) : Calls Tryz.prog 44 #[segP sb] W fun e w' => e = .returned (errV eb 13) ∧ w' = W := by
  obtain ⟨⟨lab, n, m, s, h1, h2, h4, h5⟩, h3⟩ := h
  exact cut_sick h1 h2
theorem Ill.append (h : Ill w0 W b eb L sb x D) (A : Option Addr) (k c : Nat) : Calls Tryz.prog 35 #[segP sb, .slice A k c] W fun e w' => e = .returned (errV eb 13) ∧ w' = W := by
  obtain ⟨⟨lab, n, m, s, h1, h2, h4, h5⟩, h3⟩ := h
  exact append_sick h1 (Or.inl h2) A k c
theorem Ill.ops (h : Ill w0 W b eb L sb x D) : Calls Tryz.prog 28 #[dptr b] W fun e w' => e = .returned (.int .i64 D.count) ∧ w' = W := by
  obtain ⟨⟨lab, n, m, s, h1, h2, h4, h5⟩, h3⟩ := h
  exact h1.live.ops
theorem Ill.err (h : Ill w0 W b eb L sb x D) (c : Err) (hc : c ∈ [1, 2, 3, 4, 5, 6, 7, 8, 9, 13, 15]) : W.cell? ⟨gOf c, 0, none⟩ = some (errV eb c) := by
  obtain ⟨⟨lab, n, m, s, h1, h2, h4, h5⟩, h3⟩ := h
  exact h1.err c hc
theorem Ill.inj (h : Ill w0 W b eb L sb x D) {c d : Err} (hc : c ∈ [1, 2, 3, 4, 5, 6, 7, 8, 9, 13, 15]) (hd : d ∈ [1, 2, 3, 4, 5, 6, 7, 8, 9, 13, 15]) (hne : c ≠ d) : eb c ≠ eb d := by
  obtain ⟨⟨lab, n, m, s, h1, h2, h4, h5⟩, h3⟩ := h
  exact fun e => hne (h1.live.ers.inj c d (h1.env.sub c hc) (h1.env.sub d hd) e)
theorem _root_.Go.Proofs.YtpckkdjdjkjapaaGreatDoor.Da.ErrsAt.eql {B : Nat} {w : World} {L : List Err} (h : ErrsAt B w eb L) {a b : Err} (h1 : a ∈ L) (h2 : b ∈ L) :
    (binOp .eql 32 (.iface 320 (.pointer (some (eb a)))) (.iface 320 (.pointer (some (eb b))))).run Tryz.prog w = .ok (.bool (decide (a = b))) w := by
  obtain ⟨i, hi, hcmp⟩ := Option.map_eq_some_iff.1 Go.Proofs.YtpckkdjdjkjapaaGreatDoor.Ei.isComp
  obtain ⟨j, hj, hjs⟩ := Option.map_eq_some_iff.1 Go.Proofs.YtpckkdjdjkjapaaGreatDoor.Ei.isSize
  by_cases e : a = b
  · subst e
    rw [decide_eq_true rfl]
    exact run_eql_iface_ptr_same (P := Tryz.prog) w (eb a) Tryz.underlying32 Tryz.underlying320 hi hcmp hj
  · rw [decide_eq_false e]
    obtain ⟨_, _, ha⟩ := h.blk a h1
    obtain ⟨_, _, hb⟩ := h.blk b h2
    exact run_eql_iface_ptr_other (P := Tryz.prog) w Tryz.underlying32 Tryz.underlying320 hi hcmp hj (by rw [hjs]; decide) (fun e2 => e (h.inj a b h1 h2 e2)) ha hb
theorem Ill.eql (h : Ill w0 W b eb L sb x D) {c d : Err} (hc : c ∈ [1, 2, 3, 4, 5, 6, 7, 8, 9, 13, 15]) (hd : d ∈ [1, 2, 3, 4, 5, 6, 7, 8, 9, 13, 15]) :
    (binOp .eql 32 (.iface 320 (.pointer (some (eb c)))) (.iface 320 (.pointer (some (eb d))))).run Tryz.prog W = .ok (.bool (decide (c = d))) W := by
  obtain ⟨⟨lab, n, m, s, h1, h2, h4, h5⟩, h3⟩ := h
  exact h1.live.ers.eql (h1.env.sub c hc) (h1.env.sub d hd)
/-- A sync that fails. -/
theorem SickAt.sync (h : SickAt w0 W b eb L sb x D) (part : Int) (D1 : Disk) (hD : D = D1.first part) (ho : D1.off = false) :
    Calls Tryz.prog 47 #[segP sb] W fun e w' => e = .returned (errV eb 6) ∧ ∃ D', Ill w0 w' b eb L sb x D' := by
  obtain ⟨lab, hs⟩ := h.seg
  have K := ssync_calls hs rfl (.small (by decide) (by decide))
  have e6 : (D.sync (nmOf x)).1 = 6 := by rw [hD]; exact first_sync ho part _
  rw [e6] at K
  refine K.mono ?_
  rintro e w' ⟨rfl, hn⟩
  have hf := SickAt.next hs h.frm hn
  obtain ⟨lab', h1, h2, h3⟩ := hn
  exact ⟨rfl, _, ⟨lab', _, _, _, h1, rfl, rfl, rfl⟩, hf⟩
/-- An append that fails. -/
theorem SickAt.io (h : SickAt w0 W b eb L sb x D) (part : Int) (D1 : Disk) (hD : D = D1.first part) (ho : D1.off = false) (A : Option Addr) (c : Nat) (rs : List Sg.Bytes) (hr : RecsAt W A rs) (hc : rs.length ≤ c) (hl : rs.length ≤ 4194304) (hb : ∀ r, r ∈ rs → ∀ x, x ∈ r → 0 ≤ x ∧ x < 256) (h0 : rs ≠ []) (hp : (packE x rs).1 = 0) :
    Calls Tryz.prog 35 #[segP sb, .slice A rs.length c] W fun e w' => e = .returned (errV eb 6) ∧ ∃ D', Ill w0 w' b eb L sb x D' := by
  obtain ⟨lab, hs⟩ := h.seg
  have hsz := Sg.packE_size x rs
  have K := append_goes hs rfl rfl A c rs hr hc (by omega) hb h0 hp (.small (by decide) (by show 0 + (packE x rs).2.length ≤ _; omega)) (by show 0 + (packE x rs).2.length / 512 ≤ _; omega)
  have e6 : (D.append (nmOf x) (packE x rs).2).1 = 6 := by rw [hD]; exact first_append ho part _ _
  simp only [e6] at K
  refine K.mono ?_
  rintro e w' ⟨rfl, hn⟩
  rw [if_neg (by decide)] at hn
  have hf := SickAt.next hs h.frm hn
  obtain ⟨lab', h1, h2, h3⟩ := hn
  exact ⟨rfl, _, ⟨lab', _, _, _, h1, rfl, rfl, rfl⟩, hf⟩
/-- An append that is refused. -/
theorem SickAt.long (h : SickAt w0 W b eb L sb x D) (hx : 1 ≤ x ∧ x ≤ 2305843009213693952) (A : Option Addr) (c : Nat) (rs : List Sg.Bytes) (hr : RecsAt W A rs) (hc : rs.length ≤ c) (hl : rs.length ≤ 4194304) (hb : ∀ r, r ∈ rs → ∀ x, x ∈ r → 0 ≤ x ∧ x < 256) (h0 : rs ≠ []) (hp : (packE x rs).1 ≠ 0) :
    Calls Tryz.prog 35 #[segP sb, .slice A rs.length c] W fun e w' => e = .returned (errV eb 4) ∧ SickAt w0 w' b eb L sb x D := by
  obtain ⟨lab, hs⟩ := h.seg
  have hnum : Sg.numbers x rs.length := by
    have : 0 < rs.length := List.length_pos_iff.2 h0
    unfold Sg.numbers
    omega
  have K := append_refuse hs rfl rfl A c rs hr hc (by omega) hb h0 hp
  have e4 : (packE x rs).1 = 4 := by
    rcases Sg.packE_err (first := x) (rs := rs) with h | h | h
    · exact absurd h hp
    · exact absurd h (Sg.packE_num hnum)
    · exact h
  simp only [e4] at K
  refine K.mono ?_
  rintro e w' ⟨rfl, hf⟩
  exact ⟨rfl, ⟨lab, hs.frm hf⟩, h.off, h.frm.trans hf (fun _ _ h => h)⟩
/-- An append that has nothing to do. -/
theorem SickAt.idle (h : SickAt w0 W b eb L sb x D) (A : Option Addr) (c : Nat) : Calls Tryz.prog 35 #[segP sb, .slice A 0 c] W fun e w' => e = .returned .nilIface ∧ w' = W := by
  obtain ⟨lab, hs⟩ := h.seg
  exact append_none hs rfl rfl A c
theorem SickAt.err (h : SickAt w0 W b eb L sb x D) (c : Err) (hc : c ∈ [1, 2, 3, 4, 5, 6, 7, 8, 9, 13, 15]) : W.cell? ⟨gOf c, 0, none⟩ = some (errV eb c) := by
  obtain ⟨lab, hs⟩ := h.seg
  exact hs.err c hc
theorem SickAt.eql (h : SickAt w0 W b eb L sb x D) {c d : Err} (hc : c ∈ [1, 2, 3, 4, 5, 6, 7, 8, 9, 13, 15]) (hd : d ∈ [1, 2, 3, 4, 5, 6, 7, 8, 9, 13, 15]) :
    (binOp .eql 32 (.iface 320 (.pointer (some (eb c)))) (.iface 320 (.pointer (some (eb d))))).run Tryz.prog W = .ok (.bool (decide (c = d))) W := by
  obtain ⟨lab, hs⟩ := h.seg
  exact hs.live.ers.eql (hs.env.sub c hc) (hs.env.sub d hd)
end
end Go.Proofs.YtpckkdjdjkjapaaGreatDoor.Dw

/- SegmentSick walked. -/
namespace Go.Proofs.YtpckkdjdjkjapaaGreatDoor.Dw
open Go.RowKit Go.ChangeMaps Go.Proofs.YtpckkdjdjkjapaaGreatDoor.Mp Go.Proofs.YtpckkdjdjkjapaaGreatDoor.Dm Go.Proofs.YtpckkdjdjkjapaaGreatDoor.Da Go.Shelf
open Go.Proofs.YtpckkdjdjkjapaaGreatDoor.Sg (SegS packE Over Group heavyN)
open Go.Proofs.YtpckkdjdjkjapaaGreatDoorW.PrintWords (ReadsInt string_of_reads)
set_option linter.unusedVariables false
set_option linter.unusedSimpArgs false
set_option linter.unusedSectionVars false
theorem conv_newD (W : World) (x : Int) : (convert 40 40 (.slice (some ⟨W.heap.size, 0, none⟩) 1 1)).run Tryz.prog ((W.alloc (.cells #[.int .u8 x] 5)).drew) = .ok (.slice (some ⟨W.heap.size, 0, none⟩) 1 1) ((W.alloc (.cells #[.int .u8 x] 5)).drew.freeze ⟨W.heap.size, 1, none⟩ 1) := by
  have hsh : ((W.alloc (.cells #[.int .u8 x] 5)).drew).shape? W.heap.size = some (5, 1) := by
    show (W.alloc (.cells #[.int .u8 x] 5)).shape? W.heap.size = _
    unfold World.shape?; rw [blk_alloc]; rfl
  simp [convert, run_underlying Tryz.underlying40, run_underlying Tryz.underlying5, markStringish, hsh]
theorem err_neq (a : Addr) (W : World) : (binOp .neq 32 (.iface 320 (.pointer (some a))) (.iface 320 (.pointer (some a)))).run Tryz.prog W = .ok (.bool false) W := by
  obtain ⟨i, hi, hcmp⟩ := Option.map_eq_some_iff.1 Go.Proofs.YtpckkdjdjkjapaaGreatDoor.Ei.isComp
  obtain ⟨j, hj, hjs⟩ := Option.map_eq_some_iff.1 Go.Proofs.YtpckkdjdjkjapaaGreatDoor.Ei.isSize
  simp only [binOp]
  simp [Op.equal, Op.maxDepth, run_equalIn_iface_ptr_same (P := Tryz.prog) W 9998 a Tryz.underlying32 Tryz.underlying320 hi hcmp hj]
set_option maxHeartbeats 4000000 in
set_option maxRecDepth 100000 in
theorem law_sick {w : World} {eb : Nat → Addr} {L : List Err} (he : ErrsAt w.heap.size w eb L) (hv : Env w.heap.size w L) (x : Nat) (hx : x < 18446744073709551616) (part : Int) (hpart : -9223372036854775808 ≤ part ∧ part ≤ 9223372036854775807) (A : Option Addr) (c : Nat) (gs : List Group) (hg : GsOk w A c gs) :
    Calls Tryz.prog 6 #[.int .u64 x, .slice A gs.length c, .int .i64 part] w fun e w' => e = .returned (.bool true) ∧ Frm (fun _ => False) w w' := by
  have KA := Lib.hid (awake_calls he hv)
  have KH := Lib.hid (fun W (hW : Frm (fun _ => False) w W) => heavy_ok (⟨hg.at_.frm hW, hg.cap, hg.len⟩ : GsOk W A c gs))
  obtain ⟨N, hN⟩ : ∃ N, N = gs.length := ⟨_, rfl⟩
  have HE := Lib.hid (And.intro he (And.intro hv (And.intro hg hN)))
  rw [← hN] at KH ⊢
  have hcN : N ≤ c := by have := hg.cap; omega
  have hlN : N ≤ 4611686018427387904 := by have := hg.len; omega
  clear he hv hg hN
  obtain ⟨hv1, hv2⟩ := hpart
  have c0 : ((0 : Nat) : Int) = 0 := rfl
  have v6 : errV eb 6 = .iface 320 (.pointer (some (eb 6))) := rfl
  have v4 : errV eb 4 = .iface 320 (.pointer (some (eb 4))) := rfl
  have v13 : errV eb 13 = .iface 320 (.pointer (some (eb 13))) := rfl
  by_cases hskip : 4194304 < heavyN gs ∨ N = 0 ∨ x < 1 ∨ 2305843009213693952 < x
  · by_cases hh : 4194304 < heavyN gs
    · have hs1 : decide (4194304 < heavyN gs) = true := decide_eq_true hh
      simp only [hs1] at KH
      clear hskip hh hs1
      go_enter Tryz.func6, Tryz.ntmps6
      go_wp2_with (first
        | (go_at_call 32; (with_reducible refine KA.out.mono ?_); rintro e w1 ⟨rfl, hf1⟩; have H1 := Lib.hid hf1; clear hf1)
        | (go_at_call 33; (with_reducible refine (KH.out _ H1.out).mono ?_); rintro e w2 ⟨rfl, hf2⟩; have H2 := Lib.hid (H1.out.trans hf2 (fun _ _ h => h)); clear hf2))
      go_ret
      exact ⟨rfl, H2.out⟩
    · have hs1 : decide (4194304 < heavyN gs) = false := decide_eq_false hh
      simp only [hs1] at KH
      have h3 : N = 0 ∨ (¬ N = 0 ∧ x = 0) ∨ (¬ N = 0 ∧ 1 ≤ x ∧ 2305843009213693952 < x) := by omega
      clear hskip hh hs1
      rcases h3 with h3 | ⟨h3, h4⟩ | ⟨h3, h4, h5⟩
      · have hN0 : ((N : Int) == 0) = true := by simp; omega
        clear h3
        go_enter Tryz.func6, Tryz.ntmps6
        go_wp2_with (first
          | (go_at_call 32; (with_reducible refine KA.out.mono ?_); rintro e w1 ⟨rfl, hf1⟩; have H1 := Lib.hid hf1; clear hf1)
          | (go_at_call 33; (with_reducible refine (KH.out _ H1.out).mono ?_); rintro e w2 ⟨rfl, hf2⟩; have H2 := Lib.hid (H1.out.trans hf2 (fun _ _ h => h)); clear hf2))
        go_ret
        exact ⟨rfl, H2.out⟩
      · have hN0 : ((N : Int) == 0) = false := by simp; omega
        have hd1 : decide ((x : Int) < 1) = true := decide_eq_true (by omega)
        go_enter Tryz.func6, Tryz.ntmps6
        go_wp2_with (first
          | (go_at_call 32; (with_reducible refine KA.out.mono ?_); rintro e w1 ⟨rfl, hf1⟩; have H1 := Lib.hid hf1; clear hf1)
          | (go_at_call 33; (with_reducible refine (KH.out _ H1.out).mono ?_); rintro e w2 ⟨rfl, hf2⟩; have H2 := Lib.hid (H1.out.trans hf2 (fun _ _ h => h)); clear hf2))
        go_ret
        exact ⟨rfl, H2.out⟩
      · have hN0 : ((N : Int) == 0) = false := by simp; omega
        have hd1 : decide ((x : Int) < 1) = false := decide_eq_false (by omega)
        have hd2 : decide ((2305843009213693952 : Int) < (x : Int)) = true := decide_eq_true (by omega)
        go_enter Tryz.func6, Tryz.ntmps6
        go_wp2_with (first
          | (go_at_call 32; (with_reducible refine KA.out.mono ?_); rintro e w1 ⟨rfl, hf1⟩; have H1 := Lib.hid hf1; clear hf1)
          | (go_at_call 33; (with_reducible refine (KH.out _ H1.out).mono ?_); rintro e w2 ⟨rfl, hf2⟩; have H2 := Lib.hid (H1.out.trans hf2 (fun _ _ h => h)); clear hf2))
        go_ret
        exact ⟨rfl, H2.out⟩
  · have hs1 : decide (4194304 < heavyN gs) = false := decide_eq_false (fun h => hskip (Or.inl h))
    have hs2 : ¬ N = 0 := fun h => hskip (Or.inr (Or.inl h))
    have hs3 : 1 ≤ x := by omega
    have hs4 : x ≤ 2305843009213693952 := by omega
    have hN0 : ((N : Int) == 0) = false := by simp; omega
    have hd1 : decide ((x : Int) < 1) = false := decide_eq_false (by omega)
    have hd2 : decide ((2305843009213693952 : Int) < (x : Int)) = false := decide_eq_false (by omega)
    have HV : Hid (heavyN gs ≤ 4194304) := Lib.hid (by omega)
    simp only [hs1] at KH
    clear hskip hs1
    have KC : Hid (∀ W, Frm (fun _ => False) w W → Calls Tryz.prog 34 #[dptr (W.heap.size + 2), .int .u64 x] (wBorn W) fun e w' => ∃ sb, e = .returned (.tuple #[.pointer (some ⟨sb, 0, none⟩), .nilIface]) ∧ ∃ D, SickAt W w' (W.heap.size + 2) eb L sb x D) := Lib.hid (fun W hW => by
      refine (start_calls (HE.out.1.up hW hW.size) (HE.out.2.1.up hW hW.size) x ⟨hs3, by omega⟩).mono ?_
      rintro e w' ⟨sb, rfl, h1, lab, D, h2, h3, h4⟩
      exact ⟨sb, rfl, D, ⟨lab, h2.seg⟩, h2.quiet.off, h4⟩)
    go_enter Tryz.func6, Tryz.ntmps6
    go_wp2_with (first
      | (go_at_call 32; (with_reducible refine KA.out.mono ?_); rintro e w1 ⟨rfl, hf1⟩; have H1 := Lib.hid hf1; clear hf1)
      | (go_at_call 33; (with_reducible refine (KH.out _ H1.out).mono ?_); rintro e w2 ⟨rfl, hf2⟩; have H2 := Lib.hid (H1.out.trans hf2 (fun _ _ h => h)); clear hf2)
      | (go_at_call 10; (with_reducible refine (new_calls _).mono ?_); rintro e w3 ⟨rfl, rfl⟩)
      | (go_at_call 34; (with_reducible refine (KC.out _ H2.out).mono ?_); rintro e w4 ⟨sb, rfl, D, hs⟩; have HS := Lib.hid hs; clear hs))
    have H0 := Lib.hid (And.intro HS.out H2.out)
    clear HS KC KA KH
    go_loopw [10, 9] (fun iv ev wr => ∃ i D, iv = .int .i64 (i : Nat) ∧ i ≤ N ∧ SickAt w2 wr (w2.heap.size + 2) eb L sb x D) (fun iv _ _ => N - (intOf iv).toNat)
    case atStart => exact ⟨0, D, rfl, Nat.zero_le _, H0.out.1⟩
    case round =>
      obtain ⟨i, D1, rfl, hi, hsk⟩ := hrel
      have HK := Lib.hid hsk
      clear hsk
      by_cases hlt : i < N
      · obtain ⟨labR, hseg⟩ := HK.out.seg
        have KN := Lib.hid (next_calls hseg)
        have KB := Lib.hid (blocks_calls hseg)
        simp only [c0] at KB KN
        unfold segP at KB KN
        have KM : Hid (∀ X, X = wr.alloc (.cells #[.int .i64 1, .int .i64 part] 85) → Calls Tryz.prog 46 #[dptr (w2.heap.size + 2), .slice (some ⟨wr.heap.size, 0, none⟩) 1 1, .int .i64 0] X fun e w' => e = .returned (.tuple #[]) ∧ SickAt w2 w' (w2.heap.size + 2) eb L sb x (D1.first part) ∧ (D1.first part).off = false) := Lib.hid (fun X hX => by
          have hfX : Frm (fun _ => False) wr X := by rw [hX]; exact (Frm.refl _ _).alloc _
          have hvX : FailsAt X (.slice (some ⟨wr.heap.size, 0, none⟩) 1 1) [(1, part)] := by
            refine ⟨_, 1, rfl, fun j u hu => ⟨_, rfl, ?_⟩⟩
            rw [addO, hX]
            refine cell_of blk_alloc ?_
            rw [Nat.zero_add, ← hu]
            match j with
            | 0 => rfl
            | 1 => rfl
            | j + 2 => rfl
          refine (arm9_calls (hseg.frm hfX) part _ hvX).mono ?_
          rintro e w' ⟨rfl, hn⟩
          obtain ⟨lab', h1, h2, h3⟩ := id hn
          exact ⟨rfl, ⟨⟨lab', h1⟩, (first_armed HK.out.off part).1, SickAt.next (hseg.frm hfX) (HK.out.frm.trans hfX (fun _ _ h => h)) hn⟩, (first_armed HK.out.off part).1⟩)
        obtain ⟨g, o, p, c2, hA, k1, k2, k3, k4, k5, k6⟩ := HE.out.2.2.1.at_ i (by have := HE.out.2.2.2; omega)
        subst hA
        obtain ⟨rs, hrs⟩ : ∃ rs, rs = (gs[i]'(by have := HE.out.2.2.2; omega)).1 := ⟨_, rfl⟩
        obtain ⟨sy, hsy⟩ : ∃ sy, sy = (gs[i]'(by have := HE.out.2.2.2; omega)).2 := ⟨_, rfl⟩
        rw [← hrs] at k1 k3 k4 k5 k6
        rw [← hsy] at k2
        have KG := Lib.hid (fun W (hW : Frm (fun _ => False) w W) => (⟨frmC hW k1, frmC hW k2⟩ : W.cell? ⟨g, o + i * 2, none⟩ = some (.slice p rs.length c2) ∧ W.cell? ⟨g, o + i * 2 + 1, none⟩ = some (.bool sy)))
        have HRS : Hid (rs ∈ gs.map (·.1)) := Lib.hid (by rw [hrs]; exact List.mem_map.2 ⟨_, List.getElem_mem _, rfl⟩)
        have HK6 := Lib.hid (And.intro k5 k6)
        clear k1 k2 hseg hsy hrs k5 k6
        cases sy with
        | true =>
          go_upto_region 23 with (first
            | (go_at_call 42; (with_reducible refine KN.out.mono ?_); rintro e w9 ⟨rfl, rfl⟩)
            | (go_at_call 38; (with_reducible refine KB.out.mono ?_); rintro e w9 ⟨rfl, rfl⟩)
            | (go_at_call 46; (with_reducible refine (KM.out _ rfl).mono ?_); rintro e w10 ⟨rfl, hs10, ho10⟩; have HS10 := Lib.hid hs10; have G10 := KG.out _ ((H0.out.2.trans hs10.frm (fun _ _ h => h))); obtain ⟨j1, j2⟩ := G10; have KY := Lib.hid (hs10.sync part D1 rfl HK.out.off); unfold segP at KY; simp only [v6] at KY; clear hs10 ho10)
            | (go_at_call 47; (with_reducible refine KY.out.mono ?_); rintro e w11 ⟨rfl, D11, hi11⟩; have HI := Lib.hid hi11; have e4 : w11.cell? ⟨1, 0, none⟩ = some (.iface 320 (.pointer (some (eb 4)))) := hi11.err 4 (by decide); have e6 : w11.cell? ⟨2, 0, none⟩ = some (.iface 320 (.pointer (some (eb 6)))) := hi11.err 6 (by decide); have e13 : w11.cell? ⟨0, 0, none⟩ = some (.iface 320 (.pointer (some (eb 13)))) := hi11.err 13 (by decide); have q64 : (binOp .eql 32 (.iface 320 (.pointer (some (eb 6)))) (.iface 320 (.pointer (some (eb 4))))).run Tryz.prog w11 = .ok (.bool false) w11 := hi11.eql (c := 6) (d := 4) (by decide) (by decide); have KOP := Lib.hid hi11.ops; clear hi11)
            | (go_at_call 28; (with_reducible refine KOP.out.mono ?_); rintro e w12 ⟨rfl, rfl⟩))
          have HI0 := HI.out
          have ZZ : Hid (∀ W, Frm (fun _ => False) w12 W → W.cell? ⟨2, 0, none⟩ = some (.iface 320 (.pointer (some (eb 6)))) ∧ W.cell? ⟨0, 0, none⟩ = some (.iface 320 (.pointer (some (eb 13))))) := Lib.hid (fun W hW => ⟨(HI0.step hW).err 6 (by decide), (HI0.step hW).err 13 (by decide)⟩)
          have KAP : Hid (∀ W k c A, Frm (fun _ => False) w12 W → Calls Tryz.prog 35 #[.pointer (some ⟨sb, 0, none⟩), .slice A k c] W fun e w' => e = .returned (.iface 320 (.pointer (some (eb 13)))) ∧ w' = W) := Lib.hid (fun W k c A hW => (HI0.step hW).append A k c)
          have KSY : Hid (∀ W, Frm (fun _ => False) w12 W → Calls Tryz.prog 47 #[.pointer (some ⟨sb, 0, none⟩)] W fun e w' => e = .returned (.iface 320 (.pointer (some (eb 13)))) ∧ w' = W) := Lib.hid (fun W hW => (HI0.step hW).sync)
          have KCU : Hid (∀ W, Frm (fun _ => False) w12 W → Calls Tryz.prog 44 #[.pointer (some ⟨sb, 0, none⟩)] W fun e w' => e = .returned (.iface 320 (.pointer (some (eb 13)))) ∧ w' = W) := Lib.hid (fun W hW => (HI0.step hW).cut)
          have S0 := Lib.hid (ZZ.out w12 (Frm.refl _ _))
          have D0 := Lib.hid (ZZ.out w12.drew (Frm.refl _ _).drew)
          have cvn := conv_new w12 120
          have cvd := conv_newD w12 120
          have heql := err_neq
          go_region_held3 (fun W => W.cell? ⟨2, 0, none⟩ = some (.iface 320 (.pointer (some (eb 6)))) ∧ W.cell? ⟨0, 0, none⟩ = some (.iface 320 (.pointer (some (eb 13)))))
            (first | exact S0.out | exact D0.out | exact ZZ.out _ (frm_freeze ((Frm.refl _ _).alloc _).drew _ _ (Nat.le_refl _)) | exact ZZ.out _ ((frm_freeze ((Frm.refl _ _).alloc _).drew _ _ (Nat.le_refl _)).alloc _) | go_keep)
            (first
              | (go_at_call 35; (with_reducible refine (KAP.out _ _ _ _ ?_).mono ?_); (exact (frm_freeze ((Frm.refl _ _).alloc _).drew _ _ (Nat.le_refl _)).alloc _); rintro e u1 ⟨rfl, hu⟩; subst hu)
              | (go_at_call 47; (with_reducible refine (KSY.out _ ?_).mono ?_); (exact (frm_freeze ((Frm.refl _ _).alloc _).drew _ _ (Nat.le_refl _)).alloc _); rintro e u1 ⟨rfl, hu⟩; subst hu)
              | (go_at_call 44; (with_reducible refine (KCU.out _ ?_).mono ?_); (exact (frm_freeze ((Frm.refl _ _).alloc _).drew _ _ (Nat.le_refl _)).alloc _); rintro e u1 ⟨rfl, hu⟩; subst hu))
          all_goals
            have KI5 := Lib.hid (HI0.step ((frm_freeze ((Frm.refl (fun _ => False) w12).alloc (.cells #[.int .u8 120] 5)).drew ⟨w12.heap.size, 1, none⟩ 1 (Nat.le_refl _)).alloc (.cells #[.slice (some ⟨w12.heap.size, 0, none⟩) 1 1] 40)))
            have KO5 := Lib.hid KI5.out.ops
            have KN5 := Lib.hid KI5.out.next
            have KB5 := Lib.hid KI5.out.blocks
            unfold segP at KN5 KB5
            go_wp2_with (first
              | (go_at_call 28; (with_reducible refine KO5.out.mono ?_); rintro e u1 ⟨rfl, hu⟩; subst hu)
              | (go_at_call 42; (with_reducible refine KN5.out.mono ?_); rintro e u1 ⟨rfl, hu⟩; subst hu)
              | (go_at_call 38; (with_reducible refine KB5.out.mono ?_); rintro e u1 ⟨rfl, hu⟩; subst hu))
            go_ret
            exact ⟨rfl, H0.out.2.trans KI5.out.frm (fun _ _ h => h)⟩
        | false =>
          have HX3 := Lib.hid (And.intro hs3 hs4)
          have HP : Hid (∀ W, Frm (fun _ => False) w W → RecsAt W p rs) := Lib.hid (fun W hW => HK6.out.1.frm hW)
          have HR : Hid (rs.length ≤ 4194304 ∧ ∀ r, r ∈ rs → ∀ x, x ∈ r → 0 ≤ x ∧ x < 256) := Lib.hid ⟨recs_light HRS.out HV.out, fun r hr => (HK6.out.2 r hr).2⟩
          by_cases h0 : rs = []
          · subst h0
            simp only [List.length_nil] at KG k3
            go_wp2_with (first
              | (go_at_call 42; (with_reducible refine KN.out.mono ?_); rintro e w9 ⟨rfl, rfl⟩)
              | (go_at_call 38; (with_reducible refine KB.out.mono ?_); rintro e w9 ⟨rfl, rfl⟩)
              | (go_at_call 46; (with_reducible refine (KM.out _ rfl).mono ?_); rintro e w10 ⟨rfl, hs10, ho10⟩; have HS10 := Lib.hid hs10; have G10 := KG.out _ ((H0.out.2.trans hs10.frm (fun _ _ h => h))); obtain ⟨j1, j2⟩ := G10; have KY := Lib.hid (hs10.idle p c2); unfold segP at KY; clear hs10 ho10)
              | (go_at_call 35; (with_reducible refine KY.out.mono ?_); rintro e w11 ⟨rfl, rfl⟩))
            exact ⟨⟨i + 1, _, by go_num, by omega, HS10.out⟩, by simp [intOf]; omega⟩
          · obtain ⟨nr, hnr⟩ : ∃ nr, nr = rs.length := ⟨_, rfl⟩
            have hnr0 : 0 < nr := by have := List.length_pos_iff.2 h0; omega
            have H00 := Lib.hid h0
            rw [← hnr] at KG k3 k4
            have HNR := Lib.hid hnr
            clear hnr h0
            by_cases hp : (packE x rs).1 = 0
            · have HPK := Lib.hid hp
              clear hp
              go_upto_region 23 with (first
                | (go_at_call 42; (with_reducible refine KN.out.mono ?_); rintro e w9 ⟨rfl, rfl⟩)
                | (go_at_call 38; (with_reducible refine KB.out.mono ?_); rintro e w9 ⟨rfl, rfl⟩)
                | (go_at_call 46; (with_reducible refine (KM.out _ rfl).mono ?_); rintro e w10 ⟨rfl, hs10, ho10⟩; have HS10 := Lib.hid hs10; have G10 := KG.out _ ((H0.out.2.trans hs10.frm (fun _ _ h => h))); obtain ⟨j1, j2⟩ := G10; have KY := Lib.hid (hs10.io part D1 rfl HK.out.off p c2 rs (HP.out _ (H0.out.2.trans hs10.frm (fun _ _ h => h))) (by have := HNR.out; omega) HR.out.1 HR.out.2 H00.out HPK.out); rw [← HNR.out] at KY; unfold segP at KY; simp only [v6] at KY; clear hs10 ho10)
                | (go_at_call 35; (with_reducible refine KY.out.mono ?_); rintro e w11 ⟨rfl, D11, hi11⟩; have HI := Lib.hid hi11; have e4 : w11.cell? ⟨1, 0, none⟩ = some (.iface 320 (.pointer (some (eb 4)))) := hi11.err 4 (by decide); have e6 : w11.cell? ⟨2, 0, none⟩ = some (.iface 320 (.pointer (some (eb 6)))) := hi11.err 6 (by decide); have e13 : w11.cell? ⟨0, 0, none⟩ = some (.iface 320 (.pointer (some (eb 13)))) := hi11.err 13 (by decide); have q64 : (binOp .eql 32 (.iface 320 (.pointer (some (eb 6)))) (.iface 320 (.pointer (some (eb 4))))).run Tryz.prog w11 = .ok (.bool false) w11 := hi11.eql (c := 6) (d := 4) (by decide) (by decide); have KOP := Lib.hid hi11.ops; clear hi11)
                | (go_at_call 28; (with_reducible refine KOP.out.mono ?_); rintro e w12 ⟨rfl, rfl⟩))
              have HI0 := HI.out
              have ZZ : Hid (∀ W, Frm (fun _ => False) w12 W → W.cell? ⟨2, 0, none⟩ = some (.iface 320 (.pointer (some (eb 6)))) ∧ W.cell? ⟨0, 0, none⟩ = some (.iface 320 (.pointer (some (eb 13))))) := Lib.hid (fun W hW => ⟨(HI0.step hW).err 6 (by decide), (HI0.step hW).err 13 (by decide)⟩)
              have KAP : Hid (∀ W k c A, Frm (fun _ => False) w12 W → Calls Tryz.prog 35 #[.pointer (some ⟨sb, 0, none⟩), .slice A k c] W fun e w' => e = .returned (.iface 320 (.pointer (some (eb 13)))) ∧ w' = W) := Lib.hid (fun W k c A hW => (HI0.step hW).append A k c)
              have KSY : Hid (∀ W, Frm (fun _ => False) w12 W → Calls Tryz.prog 47 #[.pointer (some ⟨sb, 0, none⟩)] W fun e w' => e = .returned (.iface 320 (.pointer (some (eb 13)))) ∧ w' = W) := Lib.hid (fun W hW => (HI0.step hW).sync)
              have KCU : Hid (∀ W, Frm (fun _ => False) w12 W → Calls Tryz.prog 44 #[.pointer (some ⟨sb, 0, none⟩)] W fun e w' => e = .returned (.iface 320 (.pointer (some (eb 13)))) ∧ w' = W) := Lib.hid (fun W hW => (HI0.step hW).cut)
              have S0 := Lib.hid (ZZ.out w12 (Frm.refl _ _))
              have D0 := Lib.hid (ZZ.out w12.drew (Frm.refl _ _).drew)
              have cvn := conv_new w12 120
              have cvd := conv_newD w12 120
              have heql := err_neq
              go_region_held3 (fun W => W.cell? ⟨2, 0, none⟩ = some (.iface 320 (.pointer (some (eb 6)))) ∧ W.cell? ⟨0, 0, none⟩ = some (.iface 320 (.pointer (some (eb 13)))))
                (first | exact S0.out | exact D0.out | exact ZZ.out _ (frm_freeze ((Frm.refl _ _).alloc _).drew _ _ (Nat.le_refl _)) | exact ZZ.out _ ((frm_freeze ((Frm.refl _ _).alloc _).drew _ _ (Nat.le_refl _)).alloc _) | go_keep)
                (first
                  | (go_at_call 35; (with_reducible refine (KAP.out _ _ _ _ ?_).mono ?_); (exact (frm_freeze ((Frm.refl _ _).alloc _).drew _ _ (Nat.le_refl _)).alloc _); rintro e u1 ⟨rfl, hu⟩; subst hu)
                  | (go_at_call 47; (with_reducible refine (KSY.out _ ?_).mono ?_); (exact (frm_freeze ((Frm.refl _ _).alloc _).drew _ _ (Nat.le_refl _)).alloc _); rintro e u1 ⟨rfl, hu⟩; subst hu)
                  | (go_at_call 44; (with_reducible refine (KCU.out _ ?_).mono ?_); (exact (frm_freeze ((Frm.refl _ _).alloc _).drew _ _ (Nat.le_refl _)).alloc _); rintro e u1 ⟨rfl, hu⟩; subst hu))
              all_goals
                have KI5 := Lib.hid (HI0.step ((frm_freeze ((Frm.refl (fun _ => False) w12).alloc (.cells #[.int .u8 120] 5)).drew ⟨w12.heap.size, 1, none⟩ 1 (Nat.le_refl _)).alloc (.cells #[.slice (some ⟨w12.heap.size, 0, none⟩) 1 1] 40)))
                have KO5 := Lib.hid KI5.out.ops
                have KN5 := Lib.hid KI5.out.next
                have KB5 := Lib.hid KI5.out.blocks
                unfold segP at KN5 KB5
                go_wp2_with (first
                  | (go_at_call 28; (with_reducible refine KO5.out.mono ?_); rintro e u1 ⟨rfl, hu⟩; subst hu)
                  | (go_at_call 42; (with_reducible refine KN5.out.mono ?_); rintro e u1 ⟨rfl, hu⟩; subst hu)
                  | (go_at_call 38; (with_reducible refine KB5.out.mono ?_); rintro e u1 ⟨rfl, hu⟩; subst hu))
                go_ret
                exact ⟨rfl, H0.out.2.trans KI5.out.frm (fun _ _ h => h)⟩
            · have HPK := Lib.hid hp
              clear hp
              go_wp2_with (first
                | (go_at_call 42; (with_reducible refine KN.out.mono ?_); rintro e w9 ⟨rfl, rfl⟩)
                | (go_at_call 38; (with_reducible refine KB.out.mono ?_); rintro e w9 ⟨rfl, rfl⟩)
                | (go_at_call 46; (with_reducible refine (KM.out _ rfl).mono ?_); rintro e w10 ⟨rfl, hs10, ho10⟩; have HS10 := Lib.hid hs10; have G10 := KG.out _ ((H0.out.2.trans hs10.frm (fun _ _ h => h))); obtain ⟨j1, j2⟩ := G10; have KY := Lib.hid (hs10.long HX3.out p c2 rs (HP.out _ (H0.out.2.trans hs10.frm (fun _ _ h => h))) (by have := HNR.out; omega) HR.out.1 HR.out.2 H00.out HPK.out); rw [← HNR.out] at KY; unfold segP at KY; simp only [v4] at KY; clear hs10 ho10)
                | (go_at_call 35; (with_reducible refine KY.out.mono ?_); rintro e w11 ⟨rfl, hs11⟩; have HS11 := Lib.hid hs11; have e4 : w11.cell? ⟨1, 0, none⟩ = some (.iface 320 (.pointer (some (eb 4)))) := hs11.err 4 (by decide); have q44 : (binOp .eql 32 (.iface 320 (.pointer (some (eb 4)))) (.iface 320 (.pointer (some (eb 4))))).run Tryz.prog w11 = .ok (.bool true) w11 := hs11.eql (c := 4) (d := 4) (by decide) (by decide); clear hs11))
              exact ⟨⟨i + 1, _, by go_num, by omega, HS11.out⟩, by simp [intOf]; omega⟩
      · obtain rfl : i = N := by omega
        go_wp2
        go_ret
        exact ⟨rfl, H0.out.2.trans HK.out.frm (fun _ _ h => h)⟩
end Go.Proofs.YtpckkdjdjkjapaaGreatDoor.Dw

/- How an argument that can be read as data lies in memory, kind by kind: out of the reader's answer, the printed words' own facts (Kd) and the datum. -/
namespace Go.Proofs.YtpckkdjdjkjapaaGreatDoor.Read
open Go.RowKit Go.ChangeShapes Go.WideShapes Go.Deep Go.Proofs.YtpckkdjdjkjapaaGreatDoorW.PrintWords
set_option linter.unusedVariables false
set_option linter.unusedSimpArgs false
section
variable {H : Type}
/-- What type t's cells read as: a value by the kind d, its datum by D. -/
def Rdr (P : Program) (t : TypeId) {α : Type} (d : Kd α) (D : α → DataW H → Prop) : Prop :=
  ∀ (enc : TypeId × Value → H) (w : World) (base : Nat) (spare : Nat → Bool) (held : Bool) (fuel : Nat) (cs : List Value) (x : DataW H × List MemPlace),
    DataW.trod enc P w base spare held fuel t cs = some x → ∃ y, d.K w y cs ∧ D y x.1
def DInt (k : IntKind) (n : Int) (d : DataW H) : Prop := d = .lit (.int k n) ∧ (Lit.int k n).wf = true
def DBool (b : Bool) (d : DataW H) : Prop := d = .lit (.bool b)
def DSlice {α : Type} (D : α → DataW H → Prop) (xs : List α) (d : DataW H) : Prop :=
  xs.length ≤ maxLen ∧ ((xs = [] ∧ d = .nil) ∨ ∃ es sp, d = .slice es sp ∧ es.length = xs.length ∧ ∀ (i : Nat) x e, xs[i]? = some x → es[i]? = some e → D x e)
def DAgg {α : Type} (DL : α → List (DataW H) → Prop) (x : α) (d : DataW H) : Prop := ∃ ds, d = .agg ds ∧ DL x ds
def D1 {α : Type} (D : α → DataW H → Prop) (x : α) (ds : List (DataW H)) : Prop := ∃ d, ds = [d] ∧ D x d
def DC {α β : Type} (D : α → DataW H → Prop) (DL : β → List (DataW H) → Prop) (x : α × β) (ds : List (DataW H)) : Prop := ∃ d r, ds = d :: r ∧ D x.1 d ∧ DL x.2 r
theorem rdr_int {P : Program} {t : TypeId} {k : IntKind} (ht : P.underlying t = some (.int k)) : Rdr (H := H) P t (Kd.int k) (DInt k) := by
  intro enc w base spare held fuel cs x h
  obtain ⟨n, rfl, rfl, hw⟩ := DataW.trod_int ht h
  exact ⟨n, rfl, rfl, hw⟩
theorem rdr_bool {P : Program} {t : TypeId} (ht : P.underlying t = some .bool) : Rdr (H := H) P t Kd.bool DBool := by
  intro enc w base spare held fuel cs x h
  obtain ⟨n, rfl, rfl⟩ := DataW.trod_bool ht h
  exact ⟨n, rfl, rfl⟩
theorem maxLen_eq : maxLen = 9223372036854775807 := by decide
theorem rdr_slice {P : Program} {t e : TypeId} {α : Type} {d : Kd α} {D : α → DataW H → Prop} (ht : P.underlying t = some (.slice e)) (hc : P.cellsOf e = d.sz) (he : Rdr P e d D) :
    Rdr P t (Kd.slice e d) (DSlice D) := by
  intro enc w base spare held fuel cs x h
  rcases open_slice ht h with ⟨rfl, rfl⟩ | ⟨a, len, cap, m, n, Ds, Pl, rfl, hb, hl, hm, hmm, rfl, hx⟩
  · exact ⟨[], ⟨none, 0, rfl, Nat.le_refl _, rfl, by simp, fun h => absurd h (by simp)⟩, Nat.zero_le _, .inl ⟨rfl, rfl⟩⟩
  · have hlm : len ≤ m := by rw [hmm]; split <;> omega
    have each : ∀ i, i < len → ∃ y c, c.length = d.sz ∧ d.K w y c ∧ D y (Ds i) ∧ ∀ j u, c[j]? = some u → w.cell? (a.add (i * d.sz + j)) = some u := by
      intro i hi
      obtain ⟨cs', h1, h2⟩ := hx i (by omega)
      rw [hc] at h1
      obtain ⟨_, hlen, hcell⟩ := World.cells?_some h1
      obtain ⟨y, hk, hd⟩ := he enc w base spare held n cs' _ h2
      refine ⟨y, cs', hlen, hk, hd, fun j u hj => ?_⟩
      have hj' : j < d.sz := by
        have := (List.getElem?_eq_some_iff.1 hj).1
        omega
      have := hcell j hj'
      rw [Go.Deep.add_add] at this
      rw [this, hj]
    obtain ⟨ys, hys, hy⟩ : ∃ ys : List α, ys.length = len ∧ ∀ i, i < len → ∃ y c, ys[i]? = some y ∧ c.length = d.sz ∧ d.K w y c ∧ D y (Ds i) ∧ ∀ j u, c[j]? = some u → w.cell? (a.add (i * d.sz + j)) = some u := by
      clear h hx hl hlm hmm hm hb
      induction len with
      | zero => exact ⟨[], rfl, fun i hi => absurd hi (Nat.not_lt_zero _)⟩
      | succ l ih =>
        obtain ⟨ys, h1, h2⟩ := ih (fun i hi => each i (by omega))
        obtain ⟨y, c, h3, h4, h5, h6⟩ := each l (by omega)
        refine ⟨ys ++ [y], by simp [h1], fun i hi => ?_⟩
        rcases Nat.lt_or_ge i l with hil | hil
        · obtain ⟨y', c', g1, g2⟩ := h2 i hil
          exact ⟨y', c', by rw [List.getElem?_append_left (by omega)]; exact g1, g2⟩
        · obtain rfl : i = l := by omega
          exact ⟨y, c, by rw [List.getElem?_append_right (by omega)]; simp [h1], h3, h4, h5, h6⟩
    have hlen9 : len ≤ 9223372036854775807 := by
      have := maxLen_eq
      omega
    refine ⟨ys, ⟨some a, cap, by rw [hys], by omega, rfl, by omega, fun _ => ⟨a, rfl, fun j p hp => ?_⟩⟩, by omega, .inr ⟨_, _, rfl, by simp [hys], fun i y e hi he' => ?_⟩⟩
    · have hj : j < len := by
        have := (List.getElem?_eq_some_iff.1 hp).1
        omega
      obtain ⟨y, c, h1, h2, h3, _, h4⟩ := hy j hj
      rw [h1] at hp
      obtain rfl := Option.some.inj hp
      exact ⟨c, h2, h3, h4⟩
    · have hj : i < len := by
        have := (List.getElem?_eq_some_iff.1 hi).1
        omega
      obtain ⟨y', c, h1, h2, h3, h5, h4⟩ := hy i hj
      rw [h1] at hi
      obtain rfl := Option.some.inj hi
      rw [List.getElem?_map, List.getElem?_range hj] at he'
      obtain rfl := Option.some.inj he'
      exact h5
/-- The fields of a struct, from cell off on. -/
def Flds (P : Program) (fs : List Field) (off : Nat) {α : Type} (d : Kd α) (DL : α → List (DataW H) → Prop) : Prop :=
  ∀ (enc : TypeId × Value → H) (w : World) (base : Nat) (spare : Nat → Bool) (held : Bool) (n : Nat) (cs : List Value) (xs : List (DataW H × List MemPlace)),
    (∀ (i : Nat) (f : Field), fs[i]? = some f → DataW.trod enc P w base spare held n f.type ((cs.drop f.offset).take (P.cellsOf f.type)) = xs[i]?) → xs.length = fs.length → cs.length = off + d.sz →
    ∃ y, d.K w y (cs.drop off) ∧ DL y (xs.map (·.1))
theorem flds_one {P : Program} {f : Field} {off : Nat} {α : Type} {d : Kd α} {D : α → DataW H → Prop} (ho : f.offset = off) (hc : P.cellsOf f.type = d.sz) (h : Rdr P f.type d D) : Flds P [f] off d (D1 D) := by
  intro enc w base spare held n cs xs hx hl hcs
  match xs, hl with
  | [x], _ =>
    have h0 := hx 0 f rfl
    rw [ho, hc, List.take_of_length_le (by simp; omega)] at h0
    obtain ⟨y, hk, hd⟩ := h enc w base spare held n _ _ h0
    exact ⟨y, hk, _, rfl, hd⟩
theorem flds_cons {P : Program} {f : Field} {fs : List Field} {off off' : Nat} {α β : Type} {a : Kd α} {b : Kd β} {D : α → DataW H → Prop} {DL : β → List (DataW H) → Prop}
    (ho : f.offset = off) (hc : P.cellsOf f.type = a.sz) (h : Rdr P f.type a D) (ho' : off' = off + a.sz) (hr : Flds P fs off' b DL) : Flds P (f :: fs) off (Kd.pair a b) (DC D DL) := by
  intro enc w base spare held n cs xs hx hl hcs
  have hsz : (Kd.pair a b).sz = a.sz + b.sz := rfl
  match xs, hl with
  | x :: xs, hl =>
    have h0 := hx 0 f rfl
    rw [ho, hc] at h0
    obtain ⟨y, hk, hd⟩ := h enc w base spare held n _ _ h0
    obtain ⟨z, hk', hd'⟩ := hr enc w base spare held n cs xs (fun i g hg => hx (i + 1) g hg) (by simpa using hl) (by omega)
    refine ⟨(y, z), ⟨_, _, ?_, hk, hk'⟩, _, _, rfl, hd, hd'⟩
    rw [ho', ← List.drop_drop, List.take_append_drop]
theorem rdr_struct {P : Program} {t : TypeId} {fs : Array Field} {α : Type} {d : Kd α} {DL : α → List (DataW H) → Prop} (ht : P.underlying t = some (.struct fs)) (hc : P.cellsOf t = d.sz) (h : Flds P fs.toList 0 d DL) :
    Rdr P t d (DAgg DL) := by
  intro enc w base spare held fuel cs x hx
  obtain ⟨xs, n, _, rfl, hl, hlen, hg⟩ := DataW.trod_struct ht hx
  obtain ⟨y, hk, hd⟩ := h enc w base spare held n cs xs (fun i f hf => hg i f (by simpa using hf)) (by simpa using hlen) (by omega)
  exact ⟨y, by simpa using hk, _, rfl, hd⟩
/-- A row's argument that is a slice. -/
theorem open_sl {P : Program} {t e : TypeId} {α : Type} {d : Kd α} {D : List α → DataW H → Prop} {enc : TypeId × Value → H} {w : World} {base : Nat} {spare : Nat → Bool} {held : Bool} {v : Value} {x : DataW H} {ps : List MemPlace} {r : Reach} {b0 : Nat}
    (hr : Rdr P t (Kd.slice e d) D) (ht : P.underlying t = some (.slice e)) (hv : Value.okWide P w r b0 t v) (h : DataW.Trod enc P w base spare held t v x ps) :
    ∃ A c l, v = .slice A (List.length l) c ∧ l.length ≤ c ∧ d.C w A l.length l ∧ D l x := by
  obtain ⟨fuel, hf⟩ := h
  obtain ⟨a, len, cap, rfl⟩ := okWide_slice ht hv
  obtain ⟨l, ⟨A, c, hcs, hlc, hC⟩, hd⟩ := hr _ _ _ _ _ _ _ _ hf
  simp [Value.cells] at hcs
  obtain ⟨rfl, rfl, rfl⟩ := hcs
  exact ⟨_, _, l, rfl, hlc, hC, hd⟩
end
end Go.Proofs.YtpckkdjdjkjapaaGreatDoor.Read

/- The arguments of layer 9's laws, read as data: groups of records; what their weights allow. -/
namespace Go.Proofs.YtpckkdjdjkjapaaGreatDoor.Dw
open Go.RowKit Go.ChangeShapes Go.WideShapes Go.Proofs.YtpckkdjdjkjapaaGreatDoor.Read Go.Proofs.YtpckkdjdjkjapaaGreatDoor.Mp Go.Proofs.YtpckkdjdjkjapaaGreatDoor.Dm Go.Proofs.YtpckkdjdjkjapaaGreatDoor.Da
open Go.Proofs.YtpckkdjdjkjapaaGreatDoor.Sg (Group)
open Go.Proofs.YtpckkdjdjkjapaaGreatDoorW.PrintWords (Kd ReadsInt)
set_option linter.unusedVariables false
set_option linter.unusedSimpArgs false
set_option linter.unusedSectionVars false
section
variable {H : Type}
/-- A datum of a type keeps to its weights. -/
def Fits (t : TypeId) (d : DataW H) : Prop := ∀ n, n ∈ d.weights Tryz.prog t → n ≤ reachBytes
theorem fits_arg {ts : List TypeId} {ds : List (DataW H)} (h : (DataW.weightsEach Tryz.prog ts ds).all (· ≤ reachBytes) = true) {j : Nat} {t : TypeId} {d : DataW H} (ht : ts[j]? = some t) (hd : ds[j]? = some d) : Fits t d := fun n hn => by
  have := List.all_eq_true.1 h n (DataW.weights_mem_each ht hd n hn)
  simpa using this
theorem weights_all {e : TypeId} : ∀ {l : List (DataW H)} {d : DataW H}, d ∈ l → ∀ n, n ∈ d.weights Tryz.prog e → n ∈ DataW.weightsAll Tryz.prog e l
  | x :: l, d, hd, n, hn => by
    simp only [DataW.weightsAll, List.mem_append]
    rcases List.mem_cons.1 hd with rfl | h
    · exact .inl hn
    · exact .inr (weights_all h n hn)
theorem fits_slice {t e : TypeId} {es sp : List (DataW H)} (h : Fits t (.slice es sp)) (hu : Tryz.prog.underlying t = some (.slice e)) : es.length * Tryz.prog.bytesOf e ≤ reachBytes ∧ ∀ d, d ∈ es → Fits e d := by
  have hw : DataW.weights Tryz.prog t (.slice es sp) = (es.length + sp.length) * Tryz.prog.bytesOf e :: (DataW.weightsAll Tryz.prog e es ++ DataW.weightsAll Tryz.prog e sp) := by simp [DataW.weights, hu]
  constructor
  · have := h _ (by rw [hw]; exact List.mem_cons_self)
    exact Nat.le_trans (Nat.mul_le_mul_right _ (Nat.le_add_right _ _)) this
  · intro d hd n hn
    exact h n (by rw [hw]; exact List.mem_cons_of_mem _ (List.mem_append_left _ (weights_all hd n hn)))
theorem fits_struct {t : TypeId} {fs : Array Field} {ds : List (DataW H)} (h : Fits t (.agg ds)) (hu : Tryz.prog.underlying t = some (.struct fs)) : ∀ (j : Nat) u d, (fs.toList.map (·.type))[j]? = some u → ds[j]? = some d → Fits u d := by
  intro j u d hj hd n hn
  refine h n ?_
  have hw : DataW.weights Tryz.prog t (.agg ds) = DataW.weightsEach Tryz.prog (fs.toList.map (·.type)) ds := by simp [DataW.weights, hu]
  rw [hw]
  exact DataW.weights_mem_each hj hd n hn
/-- Whole numbers in a slice. -/
theorem ints_wf {k : IntKind} {l : List Int} {d : DataW H} (h : DSlice (DInt k) l d) : ∀ x, x ∈ l → (Lit.int k x).wf = true := by
  intro x hx
  obtain ⟨j, hj⟩ := List.getElem?_of_mem hx
  rcases h.2 with ⟨rfl, _⟩ | ⟨es, sp, rfl, hes, hD⟩
  · simp at hj
  · have hjl := (List.getElem?_eq_some_iff.1 hj).1
    exact (hD j x _ hj (List.getElem?_eq_getElem (by omega))).2
theorem u8_wf {l : List Int} {d : DataW H} (h : DSlice (DInt .u8) l d) : ∀ x, x ∈ l → 0 ≤ x ∧ x < 256 := fun x hx => by
  have := ints_wf h x hx
  simp [Lit.wf, IntKind.min, IntKind.max, IntKind.bits, IntKind.signed] at this
  exact ⟨by omega, by omega⟩
theorem i64_wf {x : Int} (h : (Lit.int .i64 x).wf = true) : -9223372036854775808 ≤ x ∧ x ≤ 9223372036854775807 := by
  simp [Lit.wf, IntKind.min, IntKind.max, IntKind.bits, IntKind.signed] at h
  exact ⟨by omega, by omega⟩
set_option maxRecDepth 100000 in
theorem slice_len {α : Type} {t e : TypeId} {D : α → DataW H → Prop} {l : List α} {d : DataW H} (h : DSlice D l d) (hf : Fits t d) (hu : Tryz.prog.underlying t = some (.slice e)) : l.length * Tryz.prog.bytesOf e ≤ reachBytes := by
  rcases h.2 with ⟨rfl, _⟩ | ⟨es, sp, rfl, hes, _⟩
  · simp
  · rw [← hes]; exact (fits_slice hf hu).1
set_option maxRecDepth 100000 in
theorem slice_elem {α : Type} {t e : TypeId} {D : α → DataW H → Prop} {l : List α} {d : DataW H} (h : DSlice D l d) (hf : Fits t d) (hu : Tryz.prog.underlying t = some (.slice e)) {x : α} (hx : x ∈ l) : ∃ dx, D x dx ∧ Fits e dx := by
  obtain ⟨j, hj⟩ := List.getElem?_of_mem hx
  rcases h.2 with ⟨rfl, _⟩ | ⟨es, sp, rfl, hes, hD⟩
  · simp at hj
  · have hjl := (List.getElem?_eq_some_iff.1 hj).1
    have he : es[j]? = some es[j] := List.getElem?_eq_getElem (by omega)
    exact ⟨_, hD j x _ hj he, (fits_slice hf hu).2 _ (List.getElem_mem _)⟩
abbrev recK : Kd (List Int) := Kd.slice 5 (Kd.int .u8)
abbrev recsK : Kd (List (List Int)) := Kd.slice 40 recK
abbrev DRecs (rs : List (List Int)) (d : DataW H) : Prop := DSlice (DSlice (DInt .u8)) rs d
abbrev DGroup (g : Group) (d : DataW H) : Prop := DAgg (DC DRecs (D1 DBool)) g d
theorem rdr_u8s : Rdr (H := H) Tryz.prog 40 recK (DSlice (DInt .u8)) := rdr_slice Tryz.underlying40 (by kernel_rfl) (rdr_int Tryz.underlying5)
theorem rdr_recs : Rdr (H := H) Tryz.prog 61 recsK DRecs := rdr_slice Tryz.underlying61 (by kernel_rfl) rdr_u8s
theorem rdr_group : Rdr (H := H) Tryz.prog 64 (Kd.pair recsK Kd.bool) DGroup :=
  rdr_struct Tryz.underlying64 (by kernel_rfl) (flds_cons rfl (by kernel_rfl) rdr_recs rfl (flds_one rfl (by kernel_rfl) (rdr_bool Tryz.underlying4)))
theorem bytes_u8 : Tryz.prog.bytesOf 5 = 1 := by kernel_rfl
theorem bytes_bytes : Tryz.prog.bytesOf 40 = 24 := by kernel_rfl
theorem bytes_group : Tryz.prog.bytesOf 64 = 32 := by kernel_rfl
theorem reach_eq : reachBytes = 140737488351232 := by decide
set_option maxRecDepth 100000 in
theorem rec_ok {r : List Int} {d : DataW H} (h : DSlice (DInt .u8) r d) (hf : Fits 40 d) : r.length ≤ 140737488355328 ∧ ∀ x, x ∈ r → 0 ≤ x ∧ x < 256 := by
  have l1 := slice_len h hf Tryz.underlying40
  rw [bytes_u8, reach_eq] at l1
  exact ⟨by omega, u8_wf h⟩
set_option maxRecDepth 100000 in
theorem recs_ok {rs : List (List Int)} {d : DataW H} (h : DRecs rs d) (hf : Fits 61 d) : rs.length ≤ 140737488355328 ∧ ∀ r, r ∈ rs → r.length ≤ 140737488355328 ∧ ∀ x, x ∈ r → 0 ≤ x ∧ x < 256 := by
  have l1 := slice_len h hf Tryz.underlying61
  rw [bytes_bytes, reach_eq] at l1
  refine ⟨by omega, fun r hr => ?_⟩
  obtain ⟨dx, h1, h2⟩ := slice_elem h hf Tryz.underlying61 hr
  exact rec_ok h1 h2
set_option maxRecDepth 100000 in
theorem group_ok {g : Group} {d : DataW H} (h : DGroup g d) (hf : Fits 64 d) : g.1.length ≤ 140737488355328 ∧ ∀ r, r ∈ g.1 → r.length ≤ 140737488355328 ∧ ∀ x, x ∈ r → 0 ≤ x ∧ x < 256 := by
  obtain ⟨ds, rfl, d0, r0, rfl, h0, d1, rfl, h1⟩ := h
  have f0 : Fits 61 d0 := fits_struct hf Tryz.underlying64 0 61 d0 rfl rfl
  exact recs_ok h0 f0
end
theorem u64_nat {x : Int} (h : (Lit.int .u64 x).wf = true) : ∃ n : Nat, x = n ∧ n < 18446744073709551616 := by
  simp [Lit.wf, IntKind.min, IntKind.max, IntKind.bits, IntKind.signed] at h
  exact ⟨x.toNat, by omega, by omega⟩
theorem C_reads9 {w : World} {A : Option Addr} {xs : List Int} (h : (Kd.int .u8).C w A xs.length xs) : ReadsInt w .u8 A xs.length xs := Go.Proofs.YtpckkdjdjkjapaaGreatDoorW.PrintWords.Kd.reads_of_C (enc := Value.int .u8) (d := (0 : Int)) (h1 := fun _ => rfl) h
theorem recsAt_of {w : World} {A : Option Addr} {n : Nat} {rs : List (List Int)} (h : recK.C w A n rs) (hn : n = rs.length) : RecsAt w A rs := by
  intro j hj
  obtain ⟨a, rfl, h3⟩ := h.2.2 (by omega)
  obtain ⟨c, h4, ⟨p, k, e, h5, h6⟩, h7⟩ := h3 j rs[j] (List.getElem?_eq_getElem hj)
  subst e
  refine ⟨a, p, k, rfl, ?_, h5, C_reads9 h6⟩
  have := h7 0 _ rfl
  have e1 : recK.sz = 1 := rfl
  rw [e1] at this
  simpa using this
theorem groupsAt_of {w : World} {A : Option Addr} {n : Nat} {gs : List Group} (h : (Kd.pair recsK Kd.bool).C w A n gs) (hn : n = gs.length) (hok : ∀ g, g ∈ gs → g.1.length ≤ 140737488355328 ∧ ∀ r, r ∈ g.1 → r.length ≤ 140737488355328 ∧ ∀ x, x ∈ r → 0 ≤ x ∧ x < 256) : GroupsAt w A gs := by
  intro j hj
  obtain ⟨⟨g, o, sp⟩, rfl, h3⟩ := h.2.2 (by omega)
  obtain ⟨c, h4, ⟨c0, c1, e, ⟨p, k, e0, h5, h6⟩, e1⟩, h7⟩ := h3 j gs[j] (List.getElem?_eq_getElem hj)
  have e1 : c1 = [.bool gs[j].2] := e1
  subst e1 e0 e
  have k0 := h7 0 _ rfl
  have k1 := h7 1 _ rfl
  have ez : (Kd.pair recsK Kd.bool).sz = 2 := rfl
  rw [ez] at k0 k1
  have hs : sp = none := by
    obtain ⟨c', _, ⟨c0', c1', e', ⟨p', k', e0', _, _⟩, _⟩, h7'⟩ := h3 0 gs[0] (List.getElem?_eq_getElem (by omega))
    subst e0' e'
    have k0' := h7' 0 _ rfl
    have := spot_none k0'
    unfold Addr.add at this
    simpa using this
  subst hs
  rw [addO] at k0 k1
  have ok := hok gs[j] (List.getElem_mem hj)
  exact ⟨g, o, p, k, rfl, k0, k1, h5, by omega, recsAt_of h6 rfl, ok.2⟩
section
variable {H : Type} {enc : TypeId × Value → H} {w : World} {base : Nat} {spare : Nat → Bool} {held : Bool} {v : Value} {x : DataW H} {ps : List MemPlace} {r : Reach} {b0 : Nat}
set_option maxRecDepth 100000 in
theorem groups_arg (hv : Value.okWide Tryz.prog w r b0 65 v) (h : DataW.Trod enc Tryz.prog w base spare held 65 v x ps) (hf : Fits 65 x) :
    ∃ A c gs, v = .slice A (List.length gs) c ∧ GsOk w A c gs := by
  obtain ⟨A, c, gs, rfl, hlc, hC, hd⟩ := open_sl (rdr_slice Tryz.underlying65 (by kernel_rfl) rdr_group) Tryz.underlying65 hv h
  have l1 := slice_len hd hf Tryz.underlying65
  rw [bytes_group, reach_eq] at l1
  refine ⟨A, c, gs, rfl, groupsAt_of hC rfl (fun g hg => ?_), hlc, by omega⟩
  obtain ⟨dx, h1, h2⟩ := slice_elem hd hf Tryz.underlying65 hg
  exact group_ok h1 h2
end
end Go.Proofs.YtpckkdjdjkjapaaGreatDoor.Dw
