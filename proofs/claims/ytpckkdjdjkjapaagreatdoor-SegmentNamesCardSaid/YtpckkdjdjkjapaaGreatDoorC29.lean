/- A part of the proof of segmentSick_holds: Lk0. No condition. -/
import Derived.Test.YtpckkdjdjkjapaaGreatDoorC28

/- A segment that falls sick. -/
namespace Go.Proofs.YtpckkdjdjkjapaaGreatDoor.Dw
open Go.RowKit Go.ChangeMaps Go.Proofs.YtpckkdjdjkjapaaGreatDoor.Mp Go.Proofs.YtpckkdjdjkjapaaGreatDoor.Dm Go.Proofs.YtpckkdjdjkjapaaGreatDoor.Da Go.Shelf
open Go.Proofs.YtpckkdjdjkjapaaGreatDoor.Sg (SegS packE Over Group heavyN)
open Go.Proofs.YtpckkdjdjkjapaaGreatDoorW.PrintWords (ReadsInt string_of_reads)
set_option linter.unusedVariables false
set_option linter.unusedSimpArgs false
set_option linter.unusedSectionVars false
theorem GroupsAt.frm {w w' : World} {A : Option Addr} {gs : List Group} (h : GroupsAt w A gs) (hf : Frm (fun _ => False) w w') : GroupsAt w' A gs := by
  intro j hj
  obtain ⟨g, o, p, c, h1, h2, h3, h4, h5, h6, h7⟩ := h j hj
  exact ⟨g, o, p, c, h1, frmC hf h2, frmC hf h3, h4, h5, h6.frm hf, h7⟩
theorem _root_.Go.Proofs.YtpckkdjdjkjapaaGreatDoor.Da.ErrsAt.up {B B' : Nat} {w W : World} {eb : Nat → Addr} {L : List Err} (h : ErrsAt B w eb L) (hf : Frm (fun _ => False) w W) (hB : B ≤ B') : ErrsAt B' W eb L := by
  have k := h.frm hf (fun _ h => h.elim)
  exact ⟨k.var, k.blk, fun c hc => Nat.lt_of_lt_of_le (k.ebl c hc) hB, fun c hc => Nat.lt_of_lt_of_le (k.low c hc) hB, k.inj, k.six⟩
theorem Env.up {B B' : Nat} {w W : World} {L : List Err} (h : Env B w L) (hf : Frm (fun _ => False) w W) (hB : B ≤ B') : Env B' W L := by
  have k := h.frm hf (fun _ h => h.elim)
  exact ⟨⟨k.crc.cell, Nat.lt_of_lt_of_le k.crc.low hB⟩, k.tab, Nat.lt_of_lt_of_le k.tlow hB, k.sub⟩
/-- '[]byte{..}' behind a row of one's own making is marked: for any world. -/
theorem conv_new (W : World) (x : Int) : (convert 40 40 (.slice (some ⟨W.heap.size, 0, none⟩) 1 1)).run Tryz.prog (W.alloc (.cells #[.int .u8 x] 5)) = .ok (.slice (some ⟨W.heap.size, 0, none⟩) 1 1) ((W.alloc (.cells #[.int .u8 x] 5)).freeze ⟨W.heap.size, 1, none⟩ 1) := by
  have hsh : (W.alloc (.cells #[.int .u8 x] 5)).shape? W.heap.size = some (5, 1) := by unfold World.shape?; rw [blk_alloc]; rfl
  simp [convert, run_underlying Tryz.underlying40, run_underlying Tryz.underlying5, markStringish, hsh]
section
variable {B : Nat} {w : World} {b : Nat} {lab : Nat → Option Lb} {eb : Nat → Addr} {L : List Err} {n m : Nat} {D : Disk} {sb : Nat} {s : SegS}
theorem arm9_calls (h : SegL B w b lab eb L n m D sb s) (part : Int) (v : Value) (hv : FailsAt w v [(1, part)]) :
    Calls Tryz.prog 46 #[dptr b, v, .int .i64 0] w fun e w' => e = .returned (.tuple #[]) ∧ NextS B w lab w' b eb L n m (D.first part) sb s := by
  refine (h.live.arm v [(1, part)] 0 hv (by show 1 ≤ _; decide)).mono ?_
  rintro e w' ⟨rfl, hn⟩
  exact ⟨rfl, h.turn hn⟩
end
/-- What the law asks of its groups. -/
structure GsOk (w : World) (A : Option Addr) (c : Nat) (gs : List Group) : Prop where
  at_ : GroupsAt w A gs
  cap : gs.length ≤ c
  len : gs.length ≤ 4611686018427387904
theorem heavy_ok {w : World} {A : Option Addr} {c : Nat} {gs : List Group} (h : GsOk w A c gs) : Calls Tryz.prog 33 #[.slice A gs.length c] w fun e w' => e = .returned (.bool (decide (4194304 < heavyN gs))) ∧ Frm (fun _ => False) w w' := heavy_calls w A c gs h.at_ h.cap h.len
theorem recs_sum : ∀ (gs : List Group) (rs : List Sg.Bytes), rs ∈ gs.map (·.1) → Sg.recSum rs ≤ Sg.groupSum gs
  | [], rs, h => by cases h
  | g :: gs, rs, h => by
    rw [Sg.groupSum_cons]
    rcases List.mem_cons.1 h with e | h
    · have e2 : rs = g.1 := e
      rw [e2]
      omega
    · have := recs_sum gs rs h
      omega
theorem recs_light {gs : List Group} {rs : List Sg.Bytes} (h : rs ∈ gs.map (·.1)) (hv : heavyN gs ≤ 4194304) : rs.length ≤ 4194304 := by
  have h1 := recs_sum gs rs h
  have h2 := Sg.heavy_sum hv
  have h3 := Sg.recSum_len rs
  omega
/-- At the head of the loop: a segment made anew; the disk runs. -/
structure SickAt (w0 W : World) (b : Nat) (eb : Nat → Addr) (L : List Err) (sb x : Nat) (D : Disk) : Prop where
  seg : ∃ lab, SegL w0.heap.size W b lab eb L 2 0 D sb ⟨nmOf x, x, 0, true, false⟩
  off : D.off = false
  frm : Frm (fun _ => False) w0 W
theorem SickAt.next {w0 W W' : World} {b : Nat} {lab : Nat → Option Lb} {eb : Nat → Addr} {L : List Err} {sb n m n' m' : Nat} {D D' : Disk} {s s' : SegS} (h : SegL w0.heap.size W b lab eb L n m D sb s) (hf : Frm (fun _ => False) w0 W) (hn : NextS w0.heap.size W lab W' b eb L n' m' D' sb s') : Frm (fun _ => False) w0 W' := by
  obtain ⟨lab', h1, h2, h3⟩ := hn
  exact hf.trans h2 (fun i hi hk => by
    rcases hk with rfl | hk
    · have := h.low; omega
    · have := h.live.base i hk; omega)
/-- Behind an error of the disk's: sick. -/
structure Ill (w0 W : World) (b : Nat) (eb : Nat → Addr) (L : List Err) (sb x : Nat) (D : Disk) : Prop where
  seg : ∃ lab n m s, SegL w0.heap.size W b lab eb L n m D sb s ∧ s.sick = true ∧ s.next = x ∧ s.blocks = 0
  frm : Frm (fun _ => False) w0 W
section
variable {w0 W : World} {b : Nat} {eb : Nat → Addr} {L : List Err} {sb x : Nat} {D : Disk}
theorem Ill.step (h : Ill w0 W b eb L sb x D) {W' : World} (hf : Frm (fun _ => False) W W') : Ill w0 W' b eb L sb x D := by
  obtain ⟨⟨lab, n, m, s, h1, h2⟩, h3⟩ := h
  exact ⟨⟨lab, n, m, s, h1.frm hf, h2⟩, h3.trans hf (fun _ _ h => h)⟩
theorem Ill.next (h : Ill w0 W b eb L sb x D) : Calls Tryz.prog 42 #[segP sb] W fun e w' => e = .returned (.int .u64 x) ∧ w' = W := by
  obtain ⟨⟨lab, n, m, s, h1, h2, h4, h5⟩, h3⟩ := h
  have := next_calls h1
  rwa [h4] at this
theorem Ill.blocks (h : Ill w0 W b eb L sb x D) : Calls Tryz.prog 38 #[segP sb] W fun e w' => e = .returned (.int .i64 0) ∧ w' = W := by
  obtain ⟨⟨lab, n, m, s, h1, h2, h4, h5⟩, h3⟩ := h
  have := blocks_calls h1
  rwa [h5] at this
theorem Ill.sync (h : Ill w0 W b eb L sb x D) : Calls Tryz.prog 47 #[segP sb] W fun e w' => e = .returned (errV eb 13) ∧ w' = W := by
  obtain ⟨⟨lab, n, m, s, h1, h2, h4, h5⟩, h3⟩ := h
  exact ssync_sick h1 h2
theorem Ill.cut (h : Ill w0 W b eb L sb x D) : Calls Tryz.prog 44 #[segP sb] W fun e w' => e = .returned (errV eb 13) ∧ w' = W := by
  obtain ⟨⟨lab, n, m, s, h1, h2, h4, h5⟩, h3⟩ := h
  exact cut_sick h1 h2
theorem Ill.append (h : Ill w0 W b eb L sb x D) (A : Option Addr) (k c : Nat) : Calls Tryz.prog 35 #[segP sb, .slice A k c] W fun e w' => e = .returned (errV eb 13) ∧ w' = W := by
  obtain ⟨⟨lab, n, m, s, h1, h2, h4, h5⟩, h3⟩ := h
  exact append_sick h1 (Or.inl h2) A k c
theorem Ill.ops (h : Ill w0 W b eb L sb x D) : Calls Tryz.prog 28 #[dptr b] W fun e w' => e = .returned (.int .i64 D.count) ∧ w' = W := by
  obtain ⟨⟨lab, n, m, s, h1, h2, h4, h5⟩, h3⟩ := h
  exact h1.live.ops
theorem Ill.err (h : Ill w0 W b eb L sb x D) (c : Err) (hc : c ∈ [1, 2, 3, 4, 5, 6, 7, 8, 9, 13, 15]) : W.cell? ⟨gOf c, 0, none⟩ = some (errV eb c) := by
  obtain ⟨⟨lab, n, m, s, h1, h2, h4, h5⟩, h3⟩ := h
  exact h1.err c hc
theorem Ill.inj (h : Ill w0 W b eb L sb x D) {c d : Err} (hc : c ∈ [1, 2, 3, 4, 5, 6, 7, 8, 9, 13, 15]) (hd : d ∈ [1, 2, 3, 4, 5, 6, 7, 8, 9, 13, 15]) (hne : c ≠ d) : eb c ≠ eb d := by
  obtain ⟨⟨lab, n, m, s, h1, h2, h4, h5⟩, h3⟩ := h
  exact fun e => hne (h1.live.ers.inj c d (h1.env.sub c hc) (h1.env.sub d hd) e)
theorem _root_.Go.Proofs.YtpckkdjdjkjapaaGreatDoor.Da.ErrsAt.eql {B : Nat} {w : World} {L : List Err} (h : ErrsAt B w eb L) {a b : Err} (h1 : a ∈ L) (h2 : b ∈ L) :
    (binOp .eql 32 (.iface 320 (.pointer (some (eb a)))) (.iface 320 (.pointer (some (eb b))))).run Tryz.prog w = .ok (.bool (decide (a = b))) w := by
  obtain ⟨i, hi, hcmp⟩ := Option.map_eq_some_iff.1 Go.Proofs.YtpckkdjdjkjapaaGreatDoor.Ei.isComp
  obtain ⟨j, hj, hjs⟩ := Option.map_eq_some_iff.1 Go.Proofs.YtpckkdjdjkjapaaGreatDoor.Ei.isSize
  by_cases e : a = b
  · subst e
    rw [decide_eq_true rfl]
    exact run_eql_iface_ptr_same (P := Tryz.prog) w (eb a) Tryz.underlying32 Tryz.underlying320 hi hcmp hj
  · rw [decide_eq_false e]
    obtain ⟨_, _, ha⟩ := h.blk a h1
    obtain ⟨_, _, hb⟩ := h.blk b h2
    exact run_eql_iface_ptr_other (P := Tryz.prog) w Tryz.underlying32 Tryz.underlying320 hi hcmp hj (by rw [hjs]; decide) (fun e2 => e (h.inj a b h1 h2 e2)) ha hb
theorem Ill.eql (h : Ill w0 W b eb L sb x D) {c d : Err} (hc : c ∈ [1, 2, 3, 4, 5, 6, 7, 8, 9, 13, 15]) (hd : d ∈ [1, 2, 3, 4, 5, 6, 7, 8, 9, 13, 15]) :
    (binOp .eql 32 (.iface 320 (.pointer (some (eb c)))) (.iface 320 (.pointer (some (eb d))))).run Tryz.prog W = .ok (.bool (decide (c = d))) W := by
  obtain ⟨⟨lab, n, m, s, h1, h2, h4, h5⟩, h3⟩ := h
  exact h1.live.ers.eql (h1.env.sub c hc) (h1.env.sub d hd)
/-- A sync that fails. -/
theorem SickAt.sync (h : SickAt w0 W b eb L sb x D) (part : Int) (D1 : Disk) (hD : D = D1.first part) (ho : D1.off = false) :
    Calls Tryz.prog 47 #[segP sb] W fun e w' => e = .returned (errV eb 6) ∧ ∃ D', Ill w0 w' b eb L sb x D' := by
  obtain ⟨lab, hs⟩ := h.seg
  have K := ssync_calls hs rfl (.small (by decide) (by decide))
  have e6 : (D.sync (nmOf x)).1 = 6 := by rw [hD]; exact first_sync ho part _
  rw [e6] at K
  refine K.mono ?_
  rintro e w' ⟨rfl, hn⟩
  have hf := SickAt.next hs h.frm hn
  obtain ⟨lab', h1, h2, h3⟩ := hn
  exact ⟨rfl, _, ⟨lab', _, _, _, h1, rfl, rfl, rfl⟩, hf⟩
/-- An append that fails. -/
theorem SickAt.io (h : SickAt w0 W b eb L sb x D) (part : Int) (D1 : Disk) (hD : D = D1.first part) (ho : D1.off = false) (A : Option Addr) (c : Nat) (rs : List Sg.Bytes) (hr : RecsAt W A rs) (hc : rs.length ≤ c) (hl : rs.length ≤ 4194304) (hb : ∀ r, r ∈ rs → ∀ x, x ∈ r → 0 ≤ x ∧ x < 256) (h0 : rs ≠ []) (hp : (packE x rs).1 = 0) :
    Calls Tryz.prog 35 #[segP sb, .slice A rs.length c] W fun e w' => e = .returned (errV eb 6) ∧ ∃ D', Ill w0 w' b eb L sb x D' := by
  obtain ⟨lab, hs⟩ := h.seg
  have hsz := Sg.packE_size x rs
  have K := append_goes hs rfl rfl A c rs hr hc (by omega) hb h0 hp (.small (by decide) (by show 0 + (packE x rs).2.length ≤ _; omega)) (by show 0 + (packE x rs).2.length / 512 ≤ _; omega)
  have e6 : (D.append (nmOf x) (packE x rs).2).1 = 6 := by rw [hD]; exact first_append ho part _ _
  simp only [e6] at K
  refine K.mono ?_
  rintro e w' ⟨rfl, hn⟩
  rw [if_neg (by decide)] at hn
  have hf := SickAt.next hs h.frm hn
  obtain ⟨lab', h1, h2, h3⟩ := hn
  exact ⟨rfl, _, ⟨lab', _, _, _, h1, rfl, rfl, rfl⟩, hf⟩
/-- An append that is refused. -/
theorem SickAt.long (h : SickAt w0 W b eb L sb x D) (hx : 1 ≤ x ∧ x ≤ 2305843009213693952) (A : Option Addr) (c : Nat) (rs : List Sg.Bytes) (hr : RecsAt W A rs) (hc : rs.length ≤ c) (hl : rs.length ≤ 4194304) (hb : ∀ r, r ∈ rs → ∀ x, x ∈ r → 0 ≤ x ∧ x < 256) (h0 : rs ≠ []) (hp : (packE x rs).1 ≠ 0) :
    Calls Tryz.prog 35 #[segP sb, .slice A rs.length c] W fun e w' => e = .returned (errV eb 4) ∧ SickAt w0 w' b eb L sb x D := by
  obtain ⟨lab, hs⟩ := h.seg
  have hnum : Sg.numbers x rs.length := by
    have : 0 < rs.length := List.length_pos_iff.2 h0
    unfold Sg.numbers
    omega
  have K := append_refuse hs rfl rfl A c rs hr hc (by omega) hb h0 hp
  have e4 : (packE x rs).1 = 4 := by
    rcases Sg.packE_err (first := x) (rs := rs) with h | h | h
    · exact absurd h hp
    · exact absurd h (Sg.packE_num hnum)
    · exact h
  simp only [e4] at K
  refine K.mono ?_
  rintro e w' ⟨rfl, hf⟩
  exact ⟨rfl, ⟨lab, hs.frm hf⟩, h.off, h.frm.trans hf (fun _ _ h => h)⟩
/-- An append that has nothing to do. -/
theorem SickAt.idle (h : SickAt w0 W b eb L sb x D) (A : Option Addr) (c : Nat) : Calls Tryz.prog 35 #[segP sb, .slice A 0 c] W fun e w' => e = .returned .nilIface ∧ w' = W := by
  obtain ⟨lab, hs⟩ := h.seg
  exact append_none hs rfl rfl A c
theorem SickAt.err (h : SickAt w0 W b eb L sb x D) (c : Err) (hc : c ∈ [1, 2, 3, 4, 5, 6, 7, 8, 9, 13, 15]) : W.cell? ⟨gOf c, 0, none⟩ = some (errV eb c) := by
  obtain ⟨lab, hs⟩ := h.seg
  exact hs.err c hc
theorem SickAt.eql (h : SickAt w0 W b eb L sb x D) {c d : Err} (hc : c ∈ [1, 2, 3, 4, 5, 6, 7, 8, 9, 13, 15]) (hd : d ∈ [1, 2, 3, 4, 5, 6, 7, 8, 9, 13, 15]) :
    (binOp .eql 32 (.iface 320 (.pointer (some (eb c)))) (.iface 320 (.pointer (some (eb d))))).run Tryz.prog W = .ok (.bool (decide (c = d))) W := by
  obtain ⟨lab, hs⟩ := h.seg
  exact hs.live.ers.eql (hs.env.sub c hc) (hs.env.sub d hd)
end
end Go.Proofs.YtpckkdjdjkjapaaGreatDoor.Dw
