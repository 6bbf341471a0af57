/- A part of the proof of segmentMemoryUpto_holds: Lk0, Cu0, Cu1, Cu2, Cu3, Me0. No condition. -/
import Derived.Test.YtkmmlfphcfcbgaaGreatDoorC26

/- A segment that falls sick. -/
namespace Go.Proofs.YtkmmlfphcfcbgaaGreatDoor.Dw
open Go.RowKit Go.ChangeMaps Go.Proofs.YtkmmlfphcfcbgaaGreatDoor.Mp Go.Proofs.YtkmmlfphcfcbgaaGreatDoor.Dm Go.Proofs.YtkmmlfphcfcbgaaGreatDoor.Da Go.Shelf
open Go.Proofs.YtkmmlfphcfcbgaaGreatDoor.Sg (SegS packE Over Group heavyN)
open Go.Proofs.YtkmmlfphcfcbgaaGreatDoorW.PrintWords (ReadsInt string_of_reads)
set_option linter.unusedVariables false
set_option linter.unusedSimpArgs false
set_option linter.unusedSectionVars false
theorem GroupsAt.frm {w w' : World} {A : Option Addr} {gs : List Group} (h : GroupsAt w A gs) (hf : Frm (fun _ => False) w w') : GroupsAt w' A gs := by
  intro j hj
  obtain ⟨g, o, p, c, h1, h2, h3, h4, h5, h6, h7⟩ := h j hj
  exact ⟨g, o, p, c, h1, frmC hf h2, frmC hf h3, h4, h5, h6.frm hf, h7⟩
theorem _root_.Go.Proofs.YtkmmlfphcfcbgaaGreatDoor.Da.ErrsAt.up {B B' : Nat} {w W : World} {eb : Nat → Addr} {L : List Err} (h : ErrsAt B w eb L) (hf : Frm (fun _ => False) w W) (hB : B ≤ B') : ErrsAt B' W eb L := by
  have k := h.frm hf (fun _ h => h.elim)
  exact ⟨k.var, k.blk, fun c hc => Nat.lt_of_lt_of_le (k.ebl c hc) hB, fun c hc => Nat.lt_of_lt_of_le (k.low c hc) hB, k.inj, k.six⟩
theorem Env.up {B B' : Nat} {w W : World} {L : List Err} (h : Env B w L) (hf : Frm (fun _ => False) w W) (hB : B ≤ B') : Env B' W L := by
  have k := h.frm hf (fun _ h => h.elim)
  exact ⟨⟨k.crc.cell, Nat.lt_of_lt_of_le k.crc.low hB⟩, k.tab, Nat.lt_of_lt_of_le k.tlow hB, k.sub⟩
/-- '[]byte{..}' behind a row of one's own making is marked: for any world. -/
theorem conv_new (W : World) (x : Int) : (convert 36 36 (.slice (some ⟨W.heap.size, 0, none⟩) 1 1)).run Tryz.prog (W.alloc (.cells #[.int .u8 x] 5)) = .ok (.slice (some ⟨W.heap.size, 0, none⟩) 1 1) ((W.alloc (.cells #[.int .u8 x] 5)).freeze ⟨W.heap.size, 1, none⟩ 1) := by
  have hsh : (W.alloc (.cells #[.int .u8 x] 5)).shape? W.heap.size = some (5, 1) := by unfold World.shape?; rw [blk_alloc]; rfl
  simp [convert, run_underlying Tryz.underlying36, run_underlying Tryz.underlying5, markStringish, hsh]
section
variable {B : Nat} {w : World} {b : Nat} {lab : Nat → Option Lb} {eb : Nat → Addr} {L : List Err} {n m : Nat} {D : Disk} {sb : Nat} {s : SegS}
end
/-- What the law asks of its groups. -/
structure GsOk (w : World) (A : Option Addr) (c : Nat) (gs : List Group) : Prop where
  at_ : GroupsAt w A gs
  cap : gs.length ≤ c
  len : gs.length ≤ 4611686018427387904
theorem heavy_ok {w : World} {A : Option Addr} {c : Nat} {gs : List Group} (h : GsOk w A c gs) : Calls Tryz.prog 11 #[.slice A gs.length c] w fun e w' => e = .returned (.bool (decide (4194304 < heavyN gs))) ∧ Frm (fun _ => False) w w' := heavy_calls w A c gs h.at_ h.cap h.len
/-- At the head of the loop: a segment made anew; the disk runs. -/
structure SickAt (w0 W : World) (b : Nat) (eb : Nat → Addr) (L : List Err) (sb x : Nat) (D : Disk) : Prop where
  seg : ∃ lab, SegL w0.heap.size W b lab eb L 2 0 D sb ⟨nmOf x, x, 0, true, false⟩
  off : D.off = false
  frm : Frm (fun _ => False) w0 W
theorem SickAt.next {w0 W W' : World} {b : Nat} {lab : Nat → Option Lb} {eb : Nat → Addr} {L : List Err} {sb n m n' m' : Nat} {D D' : Disk} {s s' : SegS} (h : SegL w0.heap.size W b lab eb L n m D sb s) (hf : Frm (fun _ => False) w0 W) (hn : NextS w0.heap.size W lab W' b eb L n' m' D' sb s') : Frm (fun _ => False) w0 W' := by
  obtain ⟨lab', h1, h2, h3⟩ := hn
  exact hf.trans h2 (fun i hi hk => by
    rcases hk with rfl | hk
    · have := h.low; omega
    · have := h.live.base i hk; omega)
/-- Behind an error of the disk's: sick. -/
structure Ill (w0 W : World) (b : Nat) (eb : Nat → Addr) (L : List Err) (sb x : Nat) (D : Disk) : Prop where
  seg : ∃ lab n m s, SegL w0.heap.size W b lab eb L n m D sb s ∧ s.sick = true ∧ s.next = x ∧ s.blocks = 0
  frm : Frm (fun _ => False) w0 W
section
variable {w0 W : World} {b : Nat} {eb : Nat → Addr} {L : List Err} {sb x : Nat} {D : Disk}
theorem Ill.step (h : Ill w0 W b eb L sb x D) {W' : World} (hf : Frm (fun _ => False) W W') : Ill w0 W' b eb L sb x D := by
  obtain ⟨⟨lab, n, m, s, h1, h2⟩, h3⟩ := h
  exact ⟨⟨lab, n, m, s, h1.frm hf, h2⟩, h3.trans hf (fun _ _ h => h)⟩
theorem Ill.next (h : Ill w0 W b eb L sb x D) : Calls Tryz.prog 40 #[segP sb] W fun e w' => e = .returned (.int .u64 x) ∧ w' = W := by
  obtain ⟨⟨lab, n, m, s, h1, h2, h4, h5⟩, h3⟩ := h
  have := next_calls h1
  rwa [h4] at this
theorem Ill.blocks (h : Ill w0 W b eb L sb x D) : Calls Tryz.prog 41 #[segP sb] W fun e w' => e = .returned (.int .i64 0) ∧ w' = W := by
  obtain ⟨⟨lab, n, m, s, h1, h2, h4, h5⟩, h3⟩ := h
  have := blocks_calls h1
  rwa [h5] at this
theorem Ill.sync (h : Ill w0 W b eb L sb x D) : Calls Tryz.prog 43 #[segP sb] W fun e w' => e = .returned (errV eb 13) ∧ w' = W := by
  obtain ⟨⟨lab, n, m, s, h1, h2, h4, h5⟩, h3⟩ := h
  exact ssync_sick h1 h2
theorem Ill.append (h : Ill w0 W b eb L sb x D) (A : Option Addr) (k c : Nat) : Calls Tryz.prog 14 #[segP sb, .slice A k c] W fun e w' => e = .returned (errV eb 13) ∧ w' = W := by
  obtain ⟨⟨lab, n, m, s, h1, h2, h4, h5⟩, h3⟩ := h
  exact append_sick h1 (Or.inl h2) A k c
theorem Ill.ops (h : Ill w0 W b eb L sb x D) : Calls Tryz.prog 31 #[dptr b] W fun e w' => e = .returned (.int .i64 D.count) ∧ w' = W := by
  obtain ⟨⟨lab, n, m, s, h1, h2, h4, h5⟩, h3⟩ := h
  exact h1.live.ops
theorem Ill.err (h : Ill w0 W b eb L sb x D) (c : Err) (hc : c ∈ [1, 2, 3, 4, 5, 6, 7, 8, 9, 13, 15]) : W.cell? ⟨gOf c, 0, none⟩ = some (errV eb c) := by
  obtain ⟨⟨lab, n, m, s, h1, h2, h4, h5⟩, h3⟩ := h
  exact h1.err c hc
theorem Ill.inj (h : Ill w0 W b eb L sb x D) {c d : Err} (hc : c ∈ [1, 2, 3, 4, 5, 6, 7, 8, 9, 13, 15]) (hd : d ∈ [1, 2, 3, 4, 5, 6, 7, 8, 9, 13, 15]) (hne : c ≠ d) : eb c ≠ eb d := by
  obtain ⟨⟨lab, n, m, s, h1, h2, h4, h5⟩, h3⟩ := h
  exact fun e => hne (h1.live.ers.inj c d (h1.env.sub c hc) (h1.env.sub d hd) e)
theorem _root_.Go.Proofs.YtkmmlfphcfcbgaaGreatDoor.Da.ErrsAt.eql {B : Nat} {w : World} {L : List Err} (h : ErrsAt B w eb L) {a b : Err} (h1 : a ∈ L) (h2 : b ∈ L) :
    (binOp .eql 33 (.iface 311 (.pointer (some (eb a)))) (.iface 311 (.pointer (some (eb b))))).run Tryz.prog w = .ok (.bool (decide (a = b))) w := by
  obtain ⟨i, hi, hcmp⟩ := Option.map_eq_some_iff.1 Go.Proofs.YtkmmlfphcfcbgaaGreatDoor.Ei.isComp
  obtain ⟨j, hj, hjs⟩ := Option.map_eq_some_iff.1 Go.Proofs.YtkmmlfphcfcbgaaGreatDoor.Ei.isSize
  by_cases e : a = b
  · subst e
    rw [decide_eq_true rfl]
    exact run_eql_iface_ptr_same (P := Tryz.prog) w (eb a) Tryz.underlying33 Tryz.underlying311 hi hcmp hj
  · rw [decide_eq_false e]
    obtain ⟨_, _, ha⟩ := h.blk a h1
    obtain ⟨_, _, hb⟩ := h.blk b h2
    exact run_eql_iface_ptr_other (P := Tryz.prog) w Tryz.underlying33 Tryz.underlying311 hi hcmp hj (by rw [hjs]; decide) (fun e2 => e (h.inj a b h1 h2 e2)) ha hb
theorem Ill.eql (h : Ill w0 W b eb L sb x D) {c d : Err} (hc : c ∈ [1, 2, 3, 4, 5, 6, 7, 8, 9, 13, 15]) (hd : d ∈ [1, 2, 3, 4, 5, 6, 7, 8, 9, 13, 15]) :
    (binOp .eql 33 (.iface 311 (.pointer (some (eb c)))) (.iface 311 (.pointer (some (eb d))))).run Tryz.prog W = .ok (.bool (decide (c = d))) W := by
  obtain ⟨⟨lab, n, m, s, h1, h2, h4, h5⟩, h3⟩ := h
  exact h1.live.ers.eql (h1.env.sub c hc) (h1.env.sub d hd)
/-- A sync that fails. -/
theorem SickAt.sync (h : SickAt w0 W b eb L sb x D) (part : Int) (D1 : Disk) (hD : D = D1.first part) (ho : D1.off = false) :
    Calls Tryz.prog 43 #[segP sb] W fun e w' => e = .returned (errV eb 6) ∧ ∃ D', Ill w0 w' b eb L sb x D' := by
  obtain ⟨lab, hs⟩ := h.seg
  have K := ssync_calls hs rfl (.small (by decide) (by decide))
  have e6 : (D.sync (nmOf x)).1 = 6 := by rw [hD]; exact first_sync ho part _
  rw [e6] at K
  refine K.mono ?_
  rintro e w' ⟨rfl, hn⟩
  have hf := SickAt.next hs h.frm hn
  obtain ⟨lab', h1, h2, h3⟩ := hn
  exact ⟨rfl, _, ⟨lab', _, _, _, h1, rfl, rfl, rfl⟩, hf⟩
/-- An append that fails. -/
theorem SickAt.io (h : SickAt w0 W b eb L sb x D) (part : Int) (D1 : Disk) (hD : D = D1.first part) (ho : D1.off = false) (A : Option Addr) (c : Nat) (rs : List Sg.Bytes) (hr : RecsAt W A rs) (hc : rs.length ≤ c) (hl : rs.length ≤ 4194304) (hb : ∀ r, r ∈ rs → ∀ x, x ∈ r → 0 ≤ x ∧ x < 256) (h0 : rs ≠ []) (hp : (packE x rs).1 = 0) :
    Calls Tryz.prog 14 #[segP sb, .slice A rs.length c] W fun e w' => e = .returned (errV eb 6) ∧ ∃ D', Ill w0 w' b eb L sb x D' := by
  obtain ⟨lab, hs⟩ := h.seg
  have hsz := Sg.packE_size x rs
  have K := append_goes hs rfl rfl A c rs hr hc (by omega) hb h0 hp (.small (by decide) (by show 0 + (packE x rs).2.length ≤ _; omega)) (by show 0 + (packE x rs).2.length / 512 ≤ _; omega)
  have e6 : (D.append (nmOf x) (packE x rs).2).1 = 6 := by rw [hD]; exact first_append ho part _ _
  simp only [e6] at K
  refine K.mono ?_
  rintro e w' ⟨rfl, hn⟩
  rw [if_neg (by decide)] at hn
  have hf := SickAt.next hs h.frm hn
  obtain ⟨lab', h1, h2, h3⟩ := hn
  exact ⟨rfl, _, ⟨lab', _, _, _, h1, rfl, rfl, rfl⟩, hf⟩
theorem SickAt.err (h : SickAt w0 W b eb L sb x D) (c : Err) (hc : c ∈ [1, 2, 3, 4, 5, 6, 7, 8, 9, 13, 15]) : W.cell? ⟨gOf c, 0, none⟩ = some (errV eb c) := by
  obtain ⟨lab, hs⟩ := h.seg
  exact hs.err c hc
theorem SickAt.eql (h : SickAt w0 W b eb L sb x D) {c d : Err} (hc : c ∈ [1, 2, 3, 4, 5, 6, 7, 8, 9, 13, 15]) (hd : d ∈ [1, 2, 3, 4, 5, 6, 7, 8, 9, 13, 15]) :
    (binOp .eql 33 (.iface 311 (.pointer (some (eb c)))) (.iface 311 (.pointer (some (eb d))))).run Tryz.prog W = .ok (.bool (decide (c = d))) W := by
  obtain ⟨lab, hs⟩ := h.seg
  exact hs.live.ers.eql (hs.env.sub c hc) (hs.env.sub d hd)
end
end Go.Proofs.YtkmmlfphcfcbgaaGreatDoor.Dw

/- Records that a row of one's own names; they lie elsewhere. -/
namespace Go.Proofs.YtkmmlfphcfcbgaaGreatDoor.Dw
open Go.RowKit Go.ChangeMaps Go.Proofs.YtkmmlfphcfcbgaaGreatDoor.Mp Go.Proofs.YtkmmlfphcfcbgaaGreatDoor.Dm Go.Proofs.YtkmmlfphcfcbgaaGreatDoor.Da Go.Shelf
open Go.Proofs.YtkmmlfphcfcbgaaGreatDoor.Sg (SegS packE Over Group heavyN)
open Go.Proofs.YtkmmlfphcfcbgaaGreatDoorW.PrintWords (ReadsInt string_of_reads)
set_option linter.unusedVariables false
set_option linter.unusedSimpArgs false
set_option linter.unusedSectionVars false
/-- A row of slices of one's own; what they name lies in blocks of P. -/
def RecsRef (P : Nat → Prop) (w : World) (base : Nat) (v : Value) (rs : List Sg.Bytes) : Prop :=
  ∃ us : List Value, w.ownsRow base 36 1 v rs.length us ∧ ∀ j (h : j < rs.length), ∃ p c, us[j]? = some (.slice p rs[j].length c) ∧ rs[j].length ≤ c ∧ ReadsInt w .u8 p rs[j].length rs[j] ∧ (0 < rs[j].length → ∀ a, p = some a → P a.block)
theorem RecsRef.nil (P : Nat → Prop) (w : World) (base : Nat) : RecsRef P w base (.slice none 0 0) [] := ⟨[], World.ownsRow_nil w base _ 1, fun j h => absurd h (by simp)⟩
theorem add_blk (a : Addr) (j : Nat) : (a.add j).block = a.block := by unfold Addr.add; split <;> rfl
theorem cellF {w w' : World} {F : Nat → Prop} (hf : Frm F w w') {a : Addr} {v : Value} (h : w.cell? a = some v) (hF : ¬ F a.block) : w'.cell? a = some v := by
  obtain ⟨g, o, sp⟩ := a
  obtain rfl : sp = none := spot_none h
  exact (hf.cell (World.block_lt_of_cell? _ _ h) hF).trans h
theorem reads_keep {w w' : World} {F : Nat → Prop} {k : IntKind} {p : Option Addr} {n : Nat} {xs : List Int} (h : ReadsInt w k p n xs) (hf : Frm F w w') (hF : 0 < n → ∀ a, p = some a → ¬ F a.block) : ReadsInt w' k p n xs := by
  refine ⟨h.1, h.2.1, fun hn => ?_⟩
  obtain ⟨a, e, hc⟩ := h.2.2 hn
  refine ⟨a, e, fun j hj => ?_⟩
  exact cellF hf (hc j hj) (by rw [add_blk]; exact hF hn a e)
theorem RecsRef.keep {P F : Nat → Prop} {w w' : World} {base : Nat} {v : Value} {rs : List Sg.Bytes} (h : RecsRef P w base v rs) (hf : Frm F w w') (hP : ∀ k, P k → ¬ F k) (hv : ∀ g, v.ownBlock = some g → ¬ F g) : RecsRef P w' base v rs := by
  obtain ⟨us, h1, h2⟩ := h
  refine ⟨us, ownsRow.same h1 fun g hg => hf.block g (own_low h1 hg).2 (hv g hg), fun j hj => ?_⟩
  obtain ⟨p, c, h3, h4, h5, h6⟩ := h2 j hj
  exact ⟨p, c, h3, h4, reads_keep h5 hf (fun hn a e => hP _ (h6 hn a e)), h6⟩
theorem RecsRef.frm {P : Nat → Prop} {w w' : World} {base : Nat} {v : Value} {rs : List Sg.Bytes} (h : RecsRef P w base v rs) (hf : Frm (fun _ => False) w w') : RecsRef P w' base v rs := h.keep hf (fun _ _ h => h) (fun _ _ h => h)
theorem RecsRef.mono {P Q : Nat → Prop} {w : World} {base : Nat} {v : Value} {rs : List Sg.Bytes} (h : RecsRef P w base v rs) (hPQ : ∀ k, P k → Q k) : RecsRef Q w base v rs := by
  obtain ⟨us, h1, h2⟩ := h
  refine ⟨us, h1, fun j hj => ?_⟩
  obtain ⟨p, c, h3, h4, h5, h6⟩ := h2 j hj
  exact ⟨p, c, h3, h4, h5, fun hn a e => hPQ _ (h6 hn a e)⟩
theorem RecsRef.form {P : Nat → Prop} {w : World} {base : Nat} {v : Value} {rs : List Sg.Bytes} (h : RecsRef P w base v rs) : ∃ p c, v = .slice p rs.length c ∧ rs.length ≤ c := by
  obtain ⟨us, h1, _⟩ := h
  rcases h1.2 with ⟨hv, h0⟩ | ⟨g, cap, cur, hv, _, _, h3, _⟩
  · exact ⟨none, 0, by rw [hv, h0], by omega⟩
  · exact ⟨_, _, hv, h3⟩
theorem RecsRef.at_ {P : Nat → Prop} {w : World} {base : Nat} {p : Option Addr} {c n : Nat} {rs : List Sg.Bytes} (h : RecsRef P w base (.slice p n c) rs) : RecsAt w p rs := by
  intro j hj
  obtain ⟨us, h1, h2⟩ := h
  obtain ⟨q, k, h5, h8, h9, _⟩ := h2 j hj
  rcases h1.2 with ⟨hv, h0⟩ | ⟨g', cap', cur, hv, r1, r2, r3, r4, r5, r6⟩
  · omega
  · simp only [Value.slice.injEq] at hv
    obtain ⟨rfl, _, rfl⟩ := hv
    refine ⟨_, _, k, rfl, ?_, h8, h9⟩
    rw [addO, Nat.zero_add]
    refine cell_of r2 ?_
    have e : (cur.toList.take (rs.length * 1))[j]? = us[j]? := by rw [r6]
    rw [List.getElem?_take_of_lt (by omega), Array.getElem?_toList] at e
    rw [e]; exact h5
section
variable {w : World} {ops : Array Oper} {rest : List Oper} {o : Oper} {a : Act} {Q : Exit → Act → World → Prop}
end
end Go.Proofs.YtkmmlfphcfcbgaaGreatDoor.Dw

/- A segment with other bytes behind its blocks. -/
namespace Go.Proofs.YtkmmlfphcfcbgaaGreatDoor.Dw
open Go.RowKit Go.ChangeMaps Go.Proofs.YtkmmlfphcfcbgaaGreatDoor.Mp Go.Proofs.YtkmmlfphcfcbgaaGreatDoor.Dm Go.Proofs.YtkmmlfphcfcbgaaGreatDoor.Da Go.Shelf
open Go.Proofs.YtkmmlfphcfcbgaaGreatDoor.Sg (SegS packE Over Group heavyN)
open Go.Proofs.YtkmmlfphcfcbgaaGreatDoorW.PrintWords (ReadsInt string_of_reads)
set_option linter.unusedVariables false
set_option linter.unusedSimpArgs false
set_option linter.unusedSectionVars false
/-- A segment over a disk of one file, nothing fails; what is in the file is whatever. -/
structure QJ (B : Nat) (w : World) (b : Nat) (lab : Nat → Option Lb) (eb : Nat → Addr) (L : List Err) (n m : Nat) (D : Disk) (sb : Nat) (s : SegS) (x : Nat) (f : FileS) : Prop where
  seg : SegL B w b lab eb L n m D sb s
  one : One (nmOf x) f D
  quiet : Quiet D
  nmx : s.nm = nmOf x
  low : B ≤ w.heap.size
  bad : ∀ k, f.badSeen k = false
section
variable {B : Nat} {w : World} {b : Nat} {lab : Nat → Option Lb} {eb : Nat → Addr} {L : List Err} {n m : Nat} {D : Disk} {sb : Nat} {s : SegS} {x : Nat} {gs : List (List Sg.Bytes)} {f : FileS}
theorem QS.toQJ (h : QS B w b lab eb L n m D sb s x gs f) : QJ B w b lab eb L n m D sb s x f := ⟨h.seg, h.one, h.quiet, h.nmx, h.low, h.bad⟩
theorem QJ.frm (h : QJ B w b lab eb L n m D sb s x f) {w' : World} (hf : Frm (fun _ => False) w w') : QJ B w' b lab eb L n m D sb s x f :=
  ⟨h.seg.frm hf, h.one, h.quiet, h.nmx, Nat.le_trans h.low hf.size, h.bad⟩
theorem QJ.own (h : QJ B w b lab eb L n m D sb s x f) : ∀ k, (k = sb ∨ Ft lab k) → B ≤ k := fun k hk => hk.elim (fun e => e ▸ h.seg.low) (h.seg.live.base k)
def NextJ (B : Nat) (w : World) (lab : Nat → Option Lb) (w' : World) (b : Nat) (eb : Nat → Addr) (L : List Err) (n m : Nat) (D : Disk) (sb : Nat) (s : SegS) (x : Nat) (f : FileS) : Prop :=
  ∃ lab', QJ B w' b lab' eb L n m D sb s x f ∧ Frm (fun k => k = sb ∨ Ft lab k) w w' ∧ ∀ k, k < w.heap.size → Ft lab' k → Ft lab k
/-- Other bytes are appended to the segment's file. -/
theorem QJ.junk (h : QJ B w b lab eb L n m D sb s x f) (A : Option Addr) (c : Nat) (junk : List Int) (hr : ReadsInt w .u8 A junk.length junk) (hc : junk.length ≤ c) (hb : ∀ x, x ∈ junk → 0 ≤ x ∧ x < 256) (hlow : 0 < junk.length → ∀ a, A = some a → a.block < B) (hf : DFit (n + 1) (m + junk.length)) :
    Calls Tryz.prog 49 #[dptr b, .string (nmOf x), .slice A junk.length c] w fun e w' => e = .returned .nilIface ∧ ∃ D', D'.count = D.count + 1 ∧ NextJ B w lab w' b eb L (n + 1) (m + junk.length) D' sb s x (FileS.add junk f) := by
  obtain ⟨a1, a2, a3, a4⟩ := h.one.appendQ h.quiet junk
  have hG : Given w lab (.slice A junk.length c) junk := ⟨fromReads hr rfl, fun h0 g o n' c' e => by
    simp only [Value.slice.injEq] at e
    have hp : 0 < junk.length := List.length_pos_iff.2 h0
    have hlt : g < B := hlow hp ⟨g, o, none⟩ e.1
    refine ⟨Nat.lt_of_lt_of_le hlt h.low, ?_⟩
    cases hl : lab g with
    | none => rfl
    | some p => exact absurd (h.seg.live.base g (by unfold Ft; rw [hl]; rfl)) (by omega)⟩
  have K := h.seg.live.appendW (nmOf x) A c junk hf hG hc hb
  rw [a1, errV_zero] at K
  refine K.mono ?_
  rintro e w' ⟨rfl, hn⟩
  obtain ⟨lab', h1, h2, h3⟩ := h.seg.turn hn
  exact ⟨rfl, _, a4, lab', ⟨h1, a2, a3, h.nmx, Nat.le_trans h.low h2.size, Sg.add_good h.bad _⟩, h2, h3⟩
/-- Another segment over the same file. -/
theorem QJ.open_ (h : QJ B w b lab eb L n m D sb s x f) (hx : 1 ≤ x ∧ x ≤ 4611686018427387904) (hby : ∀ x, x ∈ f.seen → 0 ≤ x ∧ x < 256) (rs : List Sg.Bytes) (k : Nat) (hs : Sg.scanAll f.seen [] x = (rs, k)) :
    Calls Tryz.prog 15 #[dptr b, .int .u64 x] w fun e w' => ∃ sb2 p c, e = .returned (.tuple #[segP sb2, .slice p rs.length c, .nilIface]) ∧ w.heap.size ≤ sb2 ∧ QJ B w' b lab eb L n m D sb2 ⟨nmOf x, x + rs.length, k, decide (f.seen.length = k * 512), false⟩ x f ∧ RecsOwn w' w.heap.size (.slice p rs.length c) rs ∧ Frm (fun _ => False) w w' := by
  have hrd := h.one.read h.quiet.off
  rw [Sg.numbers_none h.bad] at hrd
  have hln : f.seen.length ≤ 4398046511104 := by
    have h1 := h.seg.live.sz.len f (by rw [h.one.files]; exact List.mem_singleton_self _)
    exact Nat.le_trans h1 h.seg.live.hm
  have K := open9_calls h.seg.live h.seg.env x hx f.seen [] hrd h.low hln (by simp) hby
  have hs2 : openS x f.seen [] = ⟨nmOf x, x + rs.length, k, decide (f.seen.length = k * 512), false⟩ := by unfold openS; rw [hs]
  rw [hs2, hs] at K
  refine K.mono ?_
  rintro e w' ⟨sb2, p, c, rfl, h1, h2, h3, h4⟩
  exact ⟨sb2, p, c, rfl, h1, ⟨h2, h.one, h.quiet, rfl, Nat.le_trans h.low h4.size, h.bad⟩, h3, h4⟩
/-- Records that Pack takes, whatever is in the file. -/
theorem QJ.append (h : QJ B w b lab eb L n m D sb s x f) (hsi : s.sick = false) (hwh : s.whole = true) (A : Option Addr) (c : Nat) (rs : List Sg.Bytes) (hr : RecsAt w A rs) (hc : rs.length ≤ c) (hl : rs.length ≤ 68719476736) (hb : ∀ r, r ∈ rs → ∀ x, x ∈ r → 0 ≤ x ∧ x < 256) (h0 : rs ≠ []) (hp : (packE s.next rs).1 = 0)
    (hf : DFit (n + 1) (m + (packE s.next rs).2.length)) (hbl : s.blocks + (packE s.next rs).2.length / 512 ≤ 4398046511104) :
    Calls Tryz.prog 14 #[segP sb, .slice A rs.length c] w fun e w' => e = .returned .nilIface ∧ ∃ D', D'.count = D.count + 1 ∧ NextJ B w lab w' b eb L (n + 1) (m + (packE s.next rs).2.length) D' sb (s.more rs) x (FileS.add (packE s.next rs).2 f) := by
  obtain ⟨a1, a2, a3, a4⟩ := h.one.appendQ h.quiet (packE s.next rs).2
  have K := append_goes h.seg hsi hwh A c rs hr hc hl hb h0 hp hf hbl
  rw [h.nmx, a1, errV_zero, if_pos rfl] at K
  refine K.mono ?_
  rintro e w' ⟨rfl, lab', h1, h2, h3⟩
  exact ⟨rfl, _, a4, lab', ⟨h1, a2, a3, h.nmx, Nat.le_trans h.low h2.size, Sg.add_good h.bad _⟩, h2, h3⟩
theorem QJ.read (h : QJ B w b lab eb L n m D sb s x f) : Calls Tryz.prog 38 #[dptr b, .string (nmOf x)] w fun e w' => ∃ p c q cq, e = .returned (.tuple #[.slice p f.seen.length c, .slice q 0 cq, .nilIface]) ∧ Frm (fun _ => False) w w' := by
  have hrd := h.one.read h.quiet.off
  rw [Sg.numbers_none h.bad] at hrd
  have K := h.seg.live.read (nmOf x)
  simp only [hrd, errV_zero] at K
  refine K.mono ?_
  rintro e w' ⟨dv, bv, rfl, hr1, hr2, hf2⟩
  obtain ⟨pd, cd, rfl⟩ := own_form hr1
  obtain ⟨pb, cb, rfl⟩ := own_form hr2
  exact ⟨pd, cd, pb, cb, rfl, hf2⟩
theorem QJ.ops (h : QJ B w b lab eb L n m D sb s x f) : Calls Tryz.prog 31 #[dptr b] w fun e w' => e = .returned (.int .i64 D.count) ∧ w' = w := h.seg.live.ops
end
end Go.Proofs.YtkmmlfphcfcbgaaGreatDoor.Dw

/- SegmentCuts: while the groups are handed in. -/
namespace Go.Proofs.YtkmmlfphcfcbgaaGreatDoor.Dw
open Go.RowKit Go.ChangeMaps Go.Proofs.YtkmmlfphcfcbgaaGreatDoor.Mp Go.Proofs.YtkmmlfphcfcbgaaGreatDoor.Dm Go.Proofs.YtkmmlfphcfcbgaaGreatDoor.Da Go.Shelf
open Go.Proofs.YtkmmlfphcfcbgaaGreatDoor.Sg (SegS packE Over Group heavyN)
open Go.Proofs.YtkmmlfphcfcbgaaGreatDoorW.PrintWords (ReadsInt string_of_reads)
set_option linter.unusedVariables false
set_option linter.unusedSimpArgs false
set_option linter.unusedSectionVars false
theorem DFit.nine {n m : Nat} (hn : n ≤ 5000000) (hm : m ≤ 600000000) : DFit n m :=
  ⟨by omega, by omega, Nat.le_trans (Nat.mul_le_mul hn (show (m + 511) / 512 ≤ 1171876 by omega)) (by decide)⟩
theorem groupSum_succ {gs : List Group} {i : Nat} (hi : i < gs.length) : Sg.groupSum (gs.take (i + 1)) = Sg.groupSum (gs.take i) + (1 + Sg.recSum gs[i].1) := by
  rw [List.take_succ_eq_append_getElem hi]
  unfold Sg.groupSum
  rw [List.map_append, List.sum_append]
  simp only [List.map_cons, List.map_nil, List.sum_cons, List.sum_nil, Nat.add_zero]
section
variable {B : Nat} {w : World} {b : Nat} {lab : Nat → Option Lb} {eb : Nat → Addr} {L : List Err} {n m : Nat} {D : Disk} {sb : Nat} {s : SegS} {x : Nat} {gs : List (List Sg.Bytes)} {f : FileS}
theorem SegL.off (h : SegL B w b lab eb L n m D sb s) {w' : World} {F : Nat → Prop} (hf : Frm F w w') (hF : ∀ k, F k → k ≠ sb ∧ ¬ Ft lab k ∧ B ≤ k) : SegL B w' b lab eb L n m D sb s :=
  ⟨h.live.frmF hf (fun k hk => (hF k hk).2.1) (fun k hk => (hF k hk).2.2), h.env.frm hf (fun k hk => (hF k hk).2.2), (hf.block sb h.lt (fun hk => (hF sb hk).1 rfl)).trans h.blk, h.out, h.low, h.nm, h.nxt, h.blo⟩
theorem QS.off (h : QS B w b lab eb L n m D sb s x gs f) {w' : World} {F : Nat → Prop} (hf : Frm F w w') (hF : ∀ k, F k → k ≠ sb ∧ ¬ Ft lab k ∧ B ≤ k) : QS B w' b lab eb L n m D sb s x gs f :=
  ⟨h.seg.off hf hF, h.one, h.quiet, h.over, h.nmx, Nat.le_trans h.low hf.size, h.bad⟩
theorem QJ.off (h : QJ B w b lab eb L n m D sb s x f) {w' : World} {F : Nat → Prop} (hf : Frm F w w') (hF : ∀ k, F k → k ≠ sb ∧ ¬ Ft lab k ∧ B ≤ k) : QJ B w' b lab eb L n m D sb s x f :=
  ⟨h.seg.off hf hF, h.one, h.quiet, h.nmx, Nat.le_trans h.low hf.size, h.bad⟩
end
theorem grown_frm {w w' : World} {r : Option Nat} (h : w.grownBy w' r) : Frm (fun k => r = some k) w w' := ⟨h.os, h.tape, h.output, h.size, fun i hi hn => h.block i hi (fun e => hn e.symm)⟩
/-- At the head of the loop, and in a round: the segment holds gs, the list rs. -/
structure CutAt (w2 W : World) (eb : Nat → Addr) (L : List Err) (sb x : Nat) (gs0 : List Group) (i : Nat) (v : Value) (gs : List (List Sg.Bytes)) (rs : List Sg.Bytes) : Prop where
  seg : ∃ lab n m D s f, QS w2.heap.size W (w2.heap.size + 2) lab eb L n m D sb s x gs f ∧ (∀ g, v.ownBlock = some g → g ≠ sb ∧ ¬ Ft lab g) ∧ n ≤ 2 + i ∧ m ≤ 512 * gs.flatten.length
  all : RecsRef (fun k => k < w2.heap.size) W w2.heap.size v rs
  frm : Frm (fun _ => False) w2 W
  cnt : 8 * gs.flatten.length + i ≤ Sg.groupSum (gs0.take i)
  byt : ∀ r, r ∈ gs.flatten → ∀ x, x ∈ r → 0 ≤ x ∧ x < 256
section
variable {w2 W : World} {eb : Nat → Addr} {L : List Err} {sb x : Nat} {gs0 : List Group} {i : Nat} {v : Value} {gs : List (List Sg.Bytes)} {rs : List Sg.Bytes}
theorem CutAt.low (h : CutAt w2 W eb L sb x gs0 i v gs rs) : w2.heap.size ≤ W.heap.size := h.frm.size
theorem CutAt.step (h : CutAt w2 W eb L sb x gs0 i v gs rs) (hi : i < gs0.length) : CutAt w2 W eb L sb x gs0 (i + 1) v gs rs := by
  obtain ⟨lab, n, m, D, s, f, h1, h2, h3, h4⟩ := h.seg
  exact ⟨⟨lab, n, m, D, s, f, h1, h2, by omega, h4⟩, h.all, h.frm, by rw [groupSum_succ hi]; have := h.cnt; omega, h.byt⟩
theorem CutAt.keep (h : CutAt w2 W eb L sb x gs0 i v gs rs) {W' : World} (hf : Frm (fun _ => False) W W') : CutAt w2 W' eb L sb x gs0 i v gs rs := by
  obtain ⟨lab, n, m, D, s, f, h1, h2⟩ := h.seg
  exact ⟨⟨lab, n, m, D, s, f, h1.frm hf, h2⟩, h.all.frm hf, h.frm.trans hf (fun _ _ h => h), h.cnt, h.byt⟩
/-- The list has grown. -/
theorem CutAt.grow (h : CutAt w2 W eb L sb x gs0 i v gs rs) {W' : World} {v' : Value} {rs' : List Sg.Bytes} (hr : RecsRef (fun k => k < w2.heap.size) W' w2.heap.size v' rs') (hg : W.grownBy W' v.ownBlock) (hn : v'.ownBlock = v.ownBlock ∨ ∀ g, v'.ownBlock = some g → W.heap.size ≤ g) : CutAt w2 W' eb L sb x gs0 i v' gs rs' := by
  obtain ⟨lab, n, m, D, s, f, h1, h2, h3, h4⟩ := h.seg
  have hbase : ∀ k, v.ownBlock = some k → w2.heap.size ≤ k := fun k hk => by
    obtain ⟨us, k1, _⟩ := h.all
    exact (own_low k1 hk).1
  refine ⟨⟨lab, n, m, D, s, f, h1.off (grown_frm hg) (fun k hk => ⟨(h2 k hk).1, (h2 k hk).2, hbase k hk⟩), fun g e => ?_, h3, h4⟩, hr, h.frm.trans (grown_frm hg) (fun k hk e => by have := hbase k e; omega), h.cnt, h.byt⟩
  rcases hn with hn | hn
  · exact h2 g (by rw [← hn]; exact e)
  · have h5 := hn g e
    refine ⟨fun e => by have := h1.seg.lt; omega, ?_⟩
    unfold Ft
    rw [h1.seg.live.low_of h5]
    simp
theorem CutAt.few (h : CutAt w2 W eb L sb x gs0 i v gs rs) (hv : heavyN gs0 ≤ 4194304) : 8 * gs.flatten.length + i ≤ 4194304 := by
  have h1 := h.cnt
  have h2 := Sg.heavy_sum hv
  have h3 := Sg.groupSum_take gs0 i
  omega
/-- Records that go. -/
theorem CutAt.goes (h : CutAt w2 W eb L sb x gs0 i v gs rs) (hv : heavyN gs0 ≤ 4194304) (hx : 1 ≤ x ∧ x ≤ 2305843009213693952) (hi : i < gs0.length) (A : Option Addr) (c : Nat) (ms : List Sg.Bytes) (hms : ms = gs0[i].1) (hr : RecsAt W A ms) (hc : ms.length ≤ c) (hb : ∀ r, r ∈ ms → ∀ x, x ∈ r → 0 ≤ x ∧ x < 256) (h0 : ms ≠ []) (hp : (packE (x + gs.flatten.length) ms).1 = 0) :
    Calls Tryz.prog 14 #[segP sb, .slice A ms.length c] W fun e w' => e = .returned .nilIface ∧ ∃ gs', gs'.flatten = gs.flatten ++ ms ∧ CutAt w2 w' eb L sb x gs0 (i + 1) v gs' rs := by
  obtain ⟨lab, n, m, D, s, f, h1, h2, h3, h4⟩ := h.seg
  have hfew := h.few hv
  have hgi : Sg.groupSum (gs0.take (i + 1)) ≤ 4194304 := Nat.le_trans (Sg.groupSum_take gs0 (i + 1)) (Sg.heavy_sum hv)
  rw [groupSum_succ hi, ← hms] at hgi
  have hrl := Sg.recSum_len ms
  have hcn := h.cnt
  rw [← h1.over.next] at hp
  obtain ⟨p1, p2, p3⟩ := Sg.packE_ok h0 hp
  have hsz := Sg.packE_size s.next ms
  have hfl : (gs ++ Sg.cutRecs ms.length ms).flatten = gs.flatten ++ ms := by
    rw [List.flatten_append, Sg.cutRecs_flatten ms.length ms (Nat.le_refl _) p2]
  have hbl : s.blocks * 512 ≤ m := by
    have k1 := h1.seg.live.sz.len f (by rw [h1.one.files]; exact List.mem_singleton_self _)
    rw [h1.over.seen, Sg.lay_length Sg.crc gs x h1.over.good] at k1
    rw [h1.over.blocks]
    omega
  have K := h1.append (by omega) A c ms hr hc (by omega) hb h0 hp (.nine (by omega) (by omega)) (by omega)
  refine K.mono ?_
  rintro e w' ⟨rfl, D', hc', lab', k1, k2, k3⟩
  have hF : ∀ k, (k = sb ∨ Ft lab k) → w2.heap.size ≤ k := h1.own
  refine ⟨rfl, _, hfl, ⟨lab', n + 1, _, D', _, _, k1, fun g e => ?_, by omega, ?_⟩, ?_, ?_, ?_, ?_⟩
  · obtain ⟨j1, j2⟩ := h2 g e
    obtain ⟨us, j3, _⟩ := h.all
    exact ⟨j1, fun hk => j2 (k3 g (own_low j3 e).2 hk)⟩
  · rw [hfl, List.length_append]; omega
  · refine h.all.keep k2 (fun k hk hF2 => by have := hF k hF2; omega) (fun g e hk => ?_)
    obtain ⟨j1, j2⟩ := h2 g e
    exact hk.elim j1 j2
  · exact h.frm.trans k2 (fun k hk hF2 => by have := hF k hF2; omega)
  · rw [hfl, List.length_append, groupSum_succ hi, ← hms]
    omega
  · rw [hfl]
    intro r hr
    rcases List.mem_append.1 hr with hr | hr
    · exact h.byt r hr
    · exact hb r hr
end
end Go.Proofs.YtkmmlfphcfcbgaaGreatDoor.Dw

/- SegmentCuts: other bytes behind the blocks; opened again. -/
namespace Go.Proofs.YtkmmlfphcfcbgaaGreatDoor.Dw
open Go.RowKit Go.ChangeMaps Go.Proofs.YtkmmlfphcfcbgaaGreatDoor.Mp Go.Proofs.YtkmmlfphcfcbgaaGreatDoor.Dm Go.Proofs.YtkmmlfphcfcbgaaGreatDoor.Da Go.Shelf
open Go.Proofs.YtkmmlfphcfcbgaaGreatDoor.Sg (SegS packE Over Group heavyN)
open Go.Proofs.YtkmmlfphcfcbgaaGreatDoorW.PrintWords (ReadsInt string_of_reads)
set_option linter.unusedVariables false
set_option linter.unusedSimpArgs false
set_option linter.unusedSectionVars false
theorem lay_byte9 : ∀ (gs : List (List Sg.Bytes)) (x : Nat), (∀ r, r ∈ gs.flatten → ∀ y, y ∈ r → 0 ≤ y ∧ y < 256) → ∀ y, y ∈ Sg.lay Sg.crc x gs → 0 ≤ y ∧ y < 256
  | [], x, _, y, hy => by simp [Sg.lay] at hy
  | g :: gs, x, h, y, hy => by
    unfold Sg.lay at hy
    rcases List.mem_append.1 hy with hy | hy
    · exact Sg.blk_byte Sg.crc (fun r hr z hz => h r (by rw [List.flatten_cons]; exact List.mem_append_left _ hr) z hz) hy
    · exact lay_byte9 gs _ (fun r hr z hz => h r (by rw [List.flatten_cons]; exact List.mem_append_right _ hr) z hz) y hy
/-- Other bytes stand behind the blocks; v: the list; cnt: how many operations. -/
structure JunkAt (P : Nat → Prop) (w2 W : World) (eb : Nat → Addr) (L : List Err) (sb x N : Nat) (v : Value) (rs : List Sg.Bytes) (sd : List Int) (k : Nat) : Prop where
  seg : ∃ lab n m D s f, QJ w2.heap.size W (w2.heap.size + 2) lab eb L n m D sb s x f ∧ f.seen = sd ∧ s.next = x + N ∧ s.blocks = k ∧ (∀ g, v.ownBlock = some g → g ≠ sb ∧ ¬ Ft lab g) ∧ n ≤ 4500000 ∧ m ≤ 300000000
  all : RecsRef P W w2.heap.size v rs
  frm : Frm (fun _ => False) w2 W
section
variable {w2 W : World} {eb : Nat → Addr} {L : List Err} {sb x : Nat} {gs0 : List Group} {i : Nat} {v : Value} {gs : List (List Sg.Bytes)} {rs : List Sg.Bytes}
theorem CutAt.blocks (h : CutAt w2 W eb L sb x gs0 i v gs rs) : Calls Tryz.prog 41 #[segP sb] W fun e w' => e = .returned (.int .i64 gs.length) ∧ w' = W := by
  obtain ⟨lab, n, m, D, s, f, h1, h2, h3, h4⟩ := h.seg
  have := blocks_calls h1.seg
  rwa [h1.over.blocks] at this
theorem CutAt.tab (h : CutAt w2 W eb L sb x gs0 i v gs rs) : Env w2.heap.size W L := by
  obtain ⟨lab, n, m, D, s, f, h1, h2, h3, h4⟩ := h.seg
  exact h1.seg.env
theorem CutAt.nums (h : CutAt w2 W eb L sb x gs0 i v gs rs) : (gs ≠ [] → Sg.numbers x gs.flatten.length) ∧ (∀ g, g ∈ gs → Sg.GoodG g) := by
  obtain ⟨lab, n, m, D, s, f, h1, h2, h3, h4⟩ := h.seg
  exact ⟨h1.over.nums, h1.over.good⟩
/-- Other bytes. -/
theorem CutAt.junk (h : CutAt w2 W eb L sb x gs0 i v gs rs) (hv : heavyN gs0 ≤ 4194304) (A : Option Addr) (c : Nat) (junk : List Int) (hr : ReadsInt W .u8 A junk.length junk) (hc : junk.length ≤ c) (hb : ∀ x, x ∈ junk → 0 ≤ x ∧ x < 256) (hlow : 0 < junk.length → ∀ a, A = some a → a.block < w2.heap.size) (hl : junk.length ≤ 4194304) :
    Calls Tryz.prog 49 #[dptr (w2.heap.size + 2), .string (nmOf x), .slice A junk.length c] W fun e w' => e = .returned .nilIface ∧ JunkAt (fun k => k < w2.heap.size) w2 w' eb L sb x gs.flatten.length v rs (Sg.lay Sg.crc x gs ++ junk) gs.length := by
  have hfew := h.few hv
  obtain ⟨lab, n, m, D, s, f, h1, h2, h3, h4⟩ := h.seg
  refine (h1.toQJ.junk A c junk hr hc hb hlow (.nine (by omega) (by omega))).mono ?_
  rintro e w' ⟨rfl, D', hc', lab', k1, k2, k3⟩
  refine ⟨rfl, ⟨lab', _, _, D', s, _, k1, ?_, h1.over.next, h1.over.blocks, fun g e => ?_, by omega, by omega⟩, ?_, ?_⟩
  · rw [Sg.add_seen, h1.over.seen]
  · obtain ⟨j1, j2⟩ := h2 g e
    obtain ⟨us, j3, _⟩ := h.all
    exact ⟨j1, fun hk => j2 (k3 g (own_low j3 e).2 hk)⟩
  · exact h.all.keep k2 (fun k hk hF2 => by have := h1.own k hF2; omega) (fun g e hk => by
      obtain ⟨j1, j2⟩ := h2 g e
      exact hk.elim j1 j2)
  · exact h.frm.trans k2 (fun k hk hF2 => by have := h1.own k hF2; omega)
end
section
variable {P : Nat → Prop} {w2 W : World} {eb : Nat → Addr} {L : List Err} {sb x N k : Nat} {v : Value} {rs : List Sg.Bytes} {sd : List Int}
theorem JunkAt.keep (h : JunkAt P w2 W eb L sb x N v rs sd k) {W' : World} (hf : Frm (fun _ => False) W W') : JunkAt P w2 W' eb L sb x N v rs sd k := by
  obtain ⟨lab, n, m, D, s, f, h1, h2⟩ := h.seg
  exact ⟨⟨lab, n, m, D, s, f, h1.frm hf, h2⟩, h.all.frm hf, h.frm.trans hf (fun _ _ h => h)⟩
theorem JunkAt.next (h : JunkAt P w2 W eb L sb x N v rs sd k) : Calls Tryz.prog 40 #[segP sb] W fun e w' => e = .returned (.int .u64 ((x + N : Nat) : Int)) ∧ w' = W := by
  obtain ⟨lab, n, m, D, s, f, h1, h2, h3, h4⟩ := h.seg
  have := next_calls h1.seg
  rwa [h3] at this
theorem JunkAt.scan (h : JunkAt P w2 W eb L sb x N v rs sd k) (A : Option Addr) (c : Nat) (junk : List Int) (hr : ReadsInt W .u8 A junk.length junk) (hc : junk.length ≤ c) (hb : ∀ x, x ∈ junk → 0 ≤ x ∧ x < 256) (hl : junk.length ≤ 4194304) (hx : x + N < 18446744073709551616) :
    Calls Tryz.prog 50 #[.slice A junk.length c, .slice none 0 0, .int .u64 ((x + N : Nat) : Int)] W fun e w' => ∃ p c2, e = .returned (.tuple #[.slice p (Sg.scanAll junk [] (x + N)).1.length c2, .int .i64 (Sg.scanAll junk [] (x + N)).2]) ∧ RecsOwn w' W.heap.size (.slice p (Sg.scanAll junk [] (x + N)).1.length c2) (Sg.scanAll junk [] (x + N)).1 ∧ Frm (fun _ => False) W w' := by
  obtain ⟨lab, n, m, D, s, f, h1, h2, h3, h4⟩ := h.seg
  have he := h1.seg.env
  refine (scan_calls he.crc h1.seg.live.ers (he.sub 2 (by decide)) (he.sub 3 (by decide)) (he.sub 5 (by decide)) h1.low A none junk.length c 0 0 junk [] (x + N) hr rfl hc (by omega) hb ⟨rfl, by decide, fun h => absurd h (by decide)⟩ rfl hx).mono ?_
  rintro e w' ⟨v2, rfl, k1, k2⟩
  obtain ⟨p, c2, rfl, _⟩ := k1.form
  exact ⟨p, c2, rfl, k1, k2⟩
/-- The list has grown. -/
theorem JunkAt.grow (h : JunkAt P w2 W eb L sb x N v rs sd k) {P' : Nat → Prop} {W' : World} {v' : Value} {rs' : List Sg.Bytes} (hr : RecsRef P' W' w2.heap.size v' rs') (hg : W.grownBy W' v.ownBlock) (hn : v'.ownBlock = v.ownBlock ∨ ∀ g, v'.ownBlock = some g → W.heap.size ≤ g) : JunkAt P' w2 W' eb L sb x N v' rs' sd k := by
  obtain ⟨lab, n, m, D, s, f, h1, h2, h3, h4, h5, h6⟩ := h.seg
  have hbase : ∀ k, v.ownBlock = some k → w2.heap.size ≤ k := fun k hk => by
    obtain ⟨us, k1, _⟩ := h.all
    exact (own_low k1 hk).1
  refine ⟨⟨lab, n, m, D, s, f, h1.off (grown_frm hg) (fun k hk => ⟨(h5 k hk).1, (h5 k hk).2, hbase k hk⟩), h2, h3, h4, fun g e => ?_, h6⟩, hr, h.frm.trans (grown_frm hg) (fun k hk e => by have := hbase k e; omega)⟩
  rcases hn with hn | hn
  · exact h5 g (by rw [← hn]; exact e)
  · have h7 := hn g e
    refine ⟨fun e => by have := h1.seg.lt; omega, ?_⟩
    unfold Ft
    rw [h1.seg.live.low_of h7]
    simp
/-- Opened again: another segment, that says something else of itself. -/
structure OpAt (w2 W : World) (eb : Nat → Addr) (L : List Err) (sb x : Nat) (s : SegS) (sl cnt n0 : Nat) : Prop where
  seg : ∃ lab n m D f, QJ w2.heap.size W (w2.heap.size + 2) lab eb L n m D sb s x f ∧ f.seen.length = sl ∧ D.count = cnt ∧ n ≤ n0 ∧ m ≤ 300000000
  frm : Frm (fun _ => False) w2 W
theorem JunkAt.open_ (h : JunkAt P w2 W eb L sb x N v rs sd k) (hx : 1 ≤ x ∧ x ≤ 4611686018427387904) (hby : ∀ x, x ∈ sd → 0 ≤ x ∧ x < 256) (R : List Sg.Bytes) (K : Nat) (hs : Sg.scanAll sd [] x = (R, K)) :
    Calls Tryz.prog 15 #[dptr (w2.heap.size + 2), .int .u64 x] W fun e w' => ∃ sb2 p c, e = .returned (.tuple #[segP sb2, .slice p R.length c, .nilIface]) ∧ R.length ≤ c ∧ RecsAt w' p R ∧ RecsRef P w' w2.heap.size v rs ∧ (∃ cnt, OpAt w2 w' eb L sb2 x ⟨nmOf x, x + R.length, K, decide (sd.length = K * 512), false⟩ sd.length cnt 4500000) ∧ Frm (fun _ => False) W w' := by
  obtain ⟨lab, n, m, D, s, f, h1, h2, h3, h4, h5, h6, h7⟩ := h.seg
  have K0 := h1.open_ hx (by rw [h2]; exact hby) R K (by rw [h2]; exact hs)
  rw [h2] at K0
  refine K0.mono ?_
  rintro e w' ⟨sb2, p, c, rfl, k1, k2, k3, k4⟩
  obtain ⟨p', c', e1, hc⟩ := k3.form
  simp only [Value.slice.injEq, true_and] at e1
  obtain ⟨rfl, rfl⟩ := e1
  exact ⟨sb2, p, c, rfl, hc, k3.recsAt, h.all.frm k4, ⟨D.count, ⟨lab, n, m, D, f, k2, by rw [h2], rfl, h6, h7⟩, h.frm.trans k4 (fun _ _ h => h)⟩, k4⟩
section
variable {s : SegS} {sl cnt n0 : Nat}
theorem OpAt.keep (h : OpAt w2 W eb L sb x s sl cnt n0) {W' : World} (hf : Frm (fun _ => False) W W') : OpAt w2 W' eb L sb x s sl cnt n0 := by
  obtain ⟨lab, n, m, D, f, h1, h2⟩ := h.seg
  exact ⟨⟨lab, n, m, D, f, h1.frm hf, h2⟩, h.frm.trans hf (fun _ _ h => h)⟩
theorem OpAt.few (h : OpAt w2 W eb L sb x s sl cnt n0) : cnt ≤ n0 := by
  obtain ⟨lab, n, m, D, f, h1, h2, h3, h4, h5⟩ := h.seg
  have := h1.seg.live.sz.count
  omega
theorem OpAt.next (h : OpAt w2 W eb L sb x s sl cnt n0) : Calls Tryz.prog 40 #[segP sb] W fun e w' => e = .returned (.int .u64 s.next) ∧ w' = W := by
  obtain ⟨lab, n, m, D, f, h1, h2⟩ := h.seg
  exact next_calls h1.seg
theorem OpAt.blocks (h : OpAt w2 W eb L sb x s sl cnt n0) : Calls Tryz.prog 41 #[segP sb] W fun e w' => e = .returned (.int .i64 s.blocks) ∧ w' = W := by
  obtain ⟨lab, n, m, D, f, h1, h2⟩ := h.seg
  exact blocks_calls h1.seg
theorem OpAt.whole (h : OpAt w2 W eb L sb x s sl cnt n0) : Calls Tryz.prog 42 #[segP sb] W fun e w' => e = .returned (.bool s.whole) ∧ w' = W := by
  obtain ⟨lab, n, m, D, f, h1, h2⟩ := h.seg
  exact whole_calls h1.seg
theorem OpAt.ops (h : OpAt w2 W eb L sb x s sl cnt n0) : Calls Tryz.prog 31 #[dptr (w2.heap.size + 2)] W fun e w' => e = .returned (.int .i64 cnt) ∧ w' = W := by
  obtain ⟨lab, n, m, D, f, h1, h2, h3, h4⟩ := h.seg
  have := h1.ops
  rwa [h3] at this
theorem OpAt.err (h : OpAt w2 W eb L sb x s sl cnt n0) (c : Err) (hc : c ∈ [1, 2, 3, 4, 5, 6, 7, 8, 9, 13, 15]) : W.cell? ⟨gOf c, 0, none⟩ = some (errV eb c) := by
  obtain ⟨lab, n, m, D, f, h1, h2⟩ := h.seg
  exact h1.seg.err c hc
theorem OpAt.tab (h : OpAt w2 W eb L sb x s sl cnt n0) : Env w2.heap.size W L := by
  obtain ⟨lab, n, m, D, f, h1, h2⟩ := h.seg
  exact h1.seg.env
theorem OpAt.cv (h : OpAt w2 W eb L sb x s sl cnt n0) (y : Int) : (convert 36 36 (.slice (some ⟨W.heap.size, 0, none⟩) 1 1)).run Tryz.prog (W.alloc (.cells #[.int .u8 y] 5)) = .ok (.slice (some ⟨W.heap.size, 0, none⟩) 1 1) ((W.alloc (.cells #[.int .u8 y] 5)).freeze ⟨W.heap.size, 1, none⟩ 1) := conv_new W y
/-- One record more, of one byte. -/
theorem OpAt.append1 (h : OpAt w2 W eb L sb x s sl cnt n0) (hs : s.sick = false) (hw : s.whole = true) (hk : s.blocks * 512 ≤ sl) (hn0 : n0 ≤ 4500100) (A : Option Addr) (c : Nat) (hr : RecsAt W A [[120]]) (hc : 1 ≤ c) (hn : 1 ≤ s.next ∧ s.next ≤ 4611686018427387904) :
    Calls Tryz.prog 14 #[segP sb, .slice A 1 c] W fun e w' => e = .returned .nilIface ∧ (Calls Tryz.prog 40 #[segP sb] w' fun e w'' => e = .returned (.int .u64 ((s.next + 1 : Nat) : Int)) ∧ w'' = w') ∧ Frm (fun _ => False) w2 w' := by
  obtain ⟨lab, n, m, D, f, h1, h2, h3, h4, h5⟩ := h.seg
  have hp : (packE s.next [[120]]).1 = 0 := by
    unfold packE
    rw [if_neg (by simp), if_neg (by have : Sg.numbers s.next 1 := ⟨hn.1, Nat.le_refl _, by omega⟩; simpa using this), if_neg (by decide)]
  have hsz := Sg.packE_size s.next [[120]]
  have hl : f.seen.length ≤ m := h1.seg.live.sz.len f (by rw [h1.one.files]; exact List.mem_singleton_self _)
  have hsz2 : (packE s.next [[120]]).2.length ≤ 512 := hsz
  have K := h1.append hs hw A c [[120]] hr hc (by decide) (by decide) (by simp) hp (.nine (by omega) (by omega)) (by omega)
  refine K.mono ?_
  rintro e w' ⟨rfl, D', hc', lab', k1, k2, k3⟩
  refine ⟨rfl, ?_, h.frm.trans k2 (fun k hk hF2 => by have := h1.own k hF2; omega)⟩
  have := next_calls k1.seg
  exact this
theorem OpAt.read (h : OpAt w2 W eb L sb x s sl cnt n0) : Calls Tryz.prog 38 #[dptr (w2.heap.size + 2), .string (nmOf x)] W fun e w' => ∃ p c q cq, e = .returned (.tuple #[.slice p sl c, .slice q 0 cq, .nilIface]) ∧ Frm (fun _ => False) W w' := by
  obtain ⟨lab, n, m, D, f, h1, h2, h3, h4, h5⟩ := h.seg
  have := h1.read
  rwa [h2] at this
end
end
end Go.Proofs.YtkmmlfphcfcbgaaGreatDoor.Dw

/- Rows of bytes that may be written over, in a row of slices of one's own. -/
namespace Go.Proofs.YtkmmlfphcfcbgaaGreatDoor.Dw
open Go.RowKit Go.ChangeMaps Go.Proofs.YtkmmlfphcfcbgaaGreatDoor.Mp Go.Proofs.YtkmmlfphcfcbgaaGreatDoor.Dm Go.Proofs.YtkmmlfphcfcbgaaGreatDoor.Da Go.Shelf
open Go.Proofs.YtkmmlfphcfcbgaaGreatDoor.Sg (SegS packE Over Group heavyN)
open Go.Proofs.YtkmmlfphcfcbgaaGreatDoorW.PrintWords (ReadsInt string_of_reads)
set_option linter.unusedVariables false
set_option linter.unusedSimpArgs false
set_option linter.unusedSectionVars false
/-- Bytes from a block's begin on; nothing of the row is frozen. -/
def Blk8 (w : World) (g cap : Nat) (xs : List Int) : Prop :=
  ∃ (cs : Array Value) (fz : Nat × Nat), w.heap[g]? = some (.cells cs 5 fz) ∧ (fz = (0, 0) ∨ fz = (cap, cap + 1)) ∧ cs.size = cap ∧ xs.length ≤ cap ∧ cap ≤ 9223372036854775807 ∧ ∀ j, j < xs.length → cs[j]? = some (.int .u8 (xs.getD j 0))
section
variable {w w' : World} {g cap : Nat} {xs : List Int}
theorem Blk8.lt (h : Blk8 w g cap xs) : g < w.heap.size := by
  obtain ⟨cs, fz, h1, _⟩ := h
  exact Da.blk_lt h1
theorem Blk8.keep (h : Blk8 w g cap xs) (hk : w'.heap[g]? = w.heap[g]?) : Blk8 w' g cap xs := by
  obtain ⟨cs, fz, h1, h2⟩ := h
  exact ⟨cs, fz, hk.trans h1, h2⟩
theorem Blk8.off (h : Blk8 w g cap xs) {F : Nat → Prop} (hf : Frm F w w') (hF : ¬ F g) : Blk8 w' g cap xs := h.keep (hf.block g h.lt hF)
theorem Blk8.cell (h : Blk8 w g cap xs) {j : Nat} (hj : j < xs.length) : w.cell? ⟨g, j, none⟩ = some (.int .u8 (xs.getD j 0)) := by
  obtain ⟨cs, fz, h1, h2, h3, h4, h5, h6⟩ := h
  simp [World.cell?, h1, h6 j hj]
theorem Blk8.frozen (h : Blk8 w g cap xs) {j : Nat} (hj : j < cap) : w.frozen? ⟨g, j, none⟩ = false := by
  obtain ⟨cs, fz, h1, h2, h3, h4, h5, h6⟩ := h
  rcases h2 with rfl | rfl <;> simp [World.frozen?, h1] <;> omega
theorem Blk8.le (h : Blk8 w g cap xs) : xs.length ≤ cap := by
  obtain ⟨cs, fz, h1, h2, h3, h4, h5, h6⟩ := h
  exact h4
theorem Blk8.max (h : Blk8 w g cap xs) : cap ≤ 9223372036854775807 := by
  obtain ⟨cs, fz, h1, h2, h3, h4, h5, h6⟩ := h
  exact h5
theorem Blk8.set (h : Blk8 w g cap xs) (j : Nat) (y : Int) : Blk8 (w.setCell ⟨g, j, none⟩ (.int .u8 y)) g cap (xs.set j y) := by
  obtain ⟨cs, fz, h1, h2, h3, h4, h5, h6⟩ := h
  refine ⟨cs.setIfInBounds j (.int .u8 y), fz, blk_set h1, h2, by simpa using h3, by simpa using h4, h5, fun i hi => ?_⟩
  rw [List.length_set] at hi
  rw [Array.getElem?_setIfInBounds]
  by_cases e : j = i
  · subst e
    rw [if_pos rfl, if_pos (by omega), List.getD_eq_getElem?_getD, List.getElem?_set_self hi]
    rfl
  · rw [if_neg e, h6 i hi, List.getD_eq_getElem?_getD, List.getD_eq_getElem?_getD, List.getElem?_set_ne e]
theorem Blk8.front (h : Blk8 w g cap xs) {n : Nat} {ys : List Int} (hn : n = ys.length) (hp : ∀ j, j < ys.length → j < xs.length ∧ xs.getD j 0 = ys.getD j 0) : ReadsInt w .u8 (some ⟨g, 0, none⟩) n ys := by
  have hm := h.max
  have hl := h.le
  refine reads_mk ?_ (fun i hi => ?_) hn.symm
  · rcases Nat.eq_zero_or_pos n with e | e
    · omega
    · have := (hp (n - 1) (by omega)).1
      omega
  · rw [Nat.zero_add, h.cell (hp i (by omega)).1, (hp i (by omega)).2]
theorem Blk8.type (h : Blk8 w g cap xs) {cs : Array Value} {e : TypeId} {fz : Nat × Nat} (hk : w.heap[g]? = some (.cells cs e fz)) : e = 5 := by
  obtain ⟨cs1, fz1, h1, h2⟩ := h
  rw [hk] at h1
  simp only [Option.some.injEq, Obj.cells.injEq] at h1
  exact h1.2.1
theorem Blk8.of_own {base n : Nat} (h : w.ownsRow base 5 1 (.slice (some ⟨g, 0, none⟩) n cap) n (u8s xs)) (hn : xs.length = n) : Blk8 w g cap xs := by
  rcases h.2 with ⟨h1, _⟩ | ⟨g', cap', cur, h1, h2, h3, h4, h5, h6, h7⟩
  · cases h1
  · simp only [Value.slice.injEq, Option.some.injEq, Addr.mk.injEq, true_and, and_true] at h1
    obtain ⟨rfl, rfl⟩ := h1
    refine ⟨cur, (0, 0), h3, Or.inl rfl, by omega, by omega, h5, fun j hj => ?_⟩
    have e : (cur.toList.take (n * 1))[j]? = (u8s xs)[j]? := by rw [h7]
    rw [List.getElem?_take_of_lt (by omega), Array.getElem?_toList] at e
    rw [e, u8s, List.getElem?_map, List.getElem?_eq_getElem hj, List.getD_eq_getElem?_getD, List.getElem?_eq_getElem hj]
    rfl
theorem Blk8.to_vals (h : Blk8 w g cap xs) : ∀ j u, (u8s xs)[j]? = some u → w.cell? ⟨g, j, none⟩ = some u := by
  intro j u hu
  rw [u8s, List.getElem?_map] at hu
  cases hj : xs[j]? with
  | none => rw [hj] at hu; cases hu
  | some x =>
    rw [hj] at hu
    have hlt := (List.getElem?_eq_some_iff.1 hj).1
    rw [h.cell hlt, List.getD_eq_getElem?_getD, hj]
    simpa using hu
theorem Rec1.blk {base : Nat} {u : Value} (h : Rec1 w base g u xs) : ∃ cap, u = .slice (some ⟨g, 0, none⟩) xs.length cap ∧ Blk8 w g cap xs ∧ base ≤ g := by
  obtain ⟨cap, cs, h1, h2, h3, h4, h5, h6, h7⟩ := h
  exact ⟨cap, h1, ⟨cs, _, h6, Or.inr rfl, h5, h3, h4, h7⟩, h2⟩
end
/-- A row of slices of one's own; the record behind each lies in a block of its own; all of these are of S. -/
def RowW (S : Nat → Prop) (w : World) (base : Nat) (v : Value) (n : Nat) (len : Nat → Nat) (X : Nat → List Int) : Prop :=
  ∃ (us : List Value) (gs : Nat → Nat), w.ownsRow base 36 1 v n us ∧ (∀ k, v.ownBlock = some k → S k) ∧ (∀ i j, i < n → j < n → gs i = gs j → i = j) ∧
    ∀ j, j < n → ∃ cap, us[j]? = some (.slice (some ⟨gs j, 0, none⟩) (len j) cap) ∧ base ≤ gs j ∧ S (gs j) ∧ len j ≤ (X j).length ∧ Blk8 w (gs j) cap (X j)
section
variable {S F : Nat → Prop} {w w' : World} {base n : Nat} {v : Value} {len : Nat → Nat} {X : Nat → List Int}
theorem RowW.nil (S : Nat → Prop) (w : World) (base : Nat) (len : Nat → Nat) (X : Nat → List Int) : RowW S w base (.slice none 0 0) 0 len X :=
  ⟨[], fun _ => 0, World.ownsRow_nil w base _ 1, fun k hk => by simp [Value.ownBlock] at hk, fun i j hi => absurd hi (Nat.not_lt_zero _), fun j hj => absurd hj (Nat.not_lt_zero _)⟩
theorem RowW.congr (h : RowW S w base v n len X) {len' : Nat → Nat} {X' : Nat → List Int} (hl : ∀ j, j < n → len' j = len j) (hX : ∀ j, j < n → X' j = X j) : RowW S w base v n len' X' := by
  obtain ⟨us, gs, h1, h2, h3, h4⟩ := h
  exact ⟨us, gs, h1, h2, h3, fun j hj => by rw [hl j hj, hX j hj]; exact h4 j hj⟩
theorem RowW.off (h : RowW S w base v n len X) (hf : Frm F w w') (hF : ∀ k, k < w.heap.size → S k → base ≤ k → ¬ F k) : RowW S w' base v n len X := by
  obtain ⟨us, gs, h1, h2, h3, h4⟩ := h
  refine ⟨us, gs, own_frm_off h1 hf (fun k hk => hF k (own_low h1 hk).2 (h2 k hk) (own_low h1 hk).1), h2, h3, fun j hj => ?_⟩
  obtain ⟨cap, k1, k2, k3, k4, k5⟩ := h4 j hj
  exact ⟨cap, k1, k2, k3, k4, k5.off hf (hF _ k5.lt k3 k2)⟩
theorem RowW.frm (h : RowW S w base v n len X) (hf : Frm (fun _ => False) w w') : RowW S w' base v n len X := h.off hf (fun _ _ _ _ h => h)
theorem RowW.mono (h : RowW S w base v n len X) {T : Nat → Prop} (hT : ∀ k, k < w.heap.size → base ≤ k → S k → T k) : RowW T w base v n len X := by
  obtain ⟨us, gs, h1, h2, h3, h4⟩ := h
  refine ⟨us, gs, h1, fun k hk => hT k (own_low h1 hk).2 (own_low h1 hk).1 (h2 k hk), h3, fun j hj => ?_⟩
  obtain ⟨cap, k1, k2, k3, k4, k5⟩ := h4 j hj
  exact ⟨cap, k1, k2, hT _ k5.lt k2 k3, k4, k5⟩
theorem RowW.form (h : RowW S w base v n len X) : ∃ p c, v = .slice p n c ∧ n ≤ c := by
  obtain ⟨us, gs, h1, _⟩ := h
  rcases h1.2 with ⟨hv, h0⟩ | ⟨g, cap, cur, hv, _, _, h3, _⟩
  · exact ⟨none, 0, by rw [hv, h0], by omega⟩
  · exact ⟨_, _, hv, h3⟩
/-- What a round needs. -/
theorem RowW.at_ (h : RowW S w base v n len X) {i : Nat} (hi : i < n) : ∃ gr c g cap, v = .slice (some ⟨gr, 0, none⟩) n c ∧ n ≤ c ∧ w.cell? ⟨gr, i, none⟩ = some (.slice (some ⟨g, 0, none⟩) (len i) cap) ∧ w.frozen? ⟨gr, i, none⟩ = false ∧ Blk8 w g cap (X i) ∧ len i ≤ (X i).length ∧ base ≤ g ∧ S g ∧ base ≤ gr ∧ S gr ∧ gr ≠ g ∧ gr < w.heap.size ∧
    (∀ w' X', Frm (fun k => k = g) w w' → Blk8 w' g cap X' → len i ≤ X'.length → RowW S w' base v n len (fun j => if j = i then X' else X j)) ∧
    (∀ w' g' cap' l' X', Frm (fun k => k = g) w w' → Blk8 w' g' cap' X' → l' ≤ X'.length → (g' = g ∨ w.heap.size ≤ g') → base ≤ g' → S g' → RowW S (w'.setCell ⟨gr, i, none⟩ (.slice (some ⟨g', 0, none⟩) l' cap')) base v n (fun j => if j = i then l' else len j) (fun j => if j = i then X' else X j)) := by
  obtain ⟨us, gs, h1, h2, h3, h4⟩ := h
  obtain ⟨cap, k1, k2, k3, k4, k5⟩ := h4 i hi
  have h1' := h1
  rcases h1.2 with ⟨hv, h0⟩ | ⟨gr, c, cur, hv, q1, q2, q3, q4, q5, q6⟩
  · omega
  have hcur : ∀ j u, j < n → us[j]? = some u → cur[j]? = some u := by
    intro j u hj hu
    have e : (cur.toList.take (n * 1))[j]? = us[j]? := by rw [q6]
    rw [List.getElem?_take_of_lt (by omega), Array.getElem?_toList] at e
    rw [e]; exact hu
  have hne : ∀ j, j < n → gr ≠ gs j := by
    intro j hj e
    obtain ⟨cap2, _, _, _, _, m5⟩ := h4 j hj
    rw [← e] at m5
    exact absurd (m5.type q2) (by decide)
  have hul : us.length = n := by have := h1.1; omega
  refine ⟨gr, c, gs i, cap, hv, q3, cell_of q2 (hcur i _ hi k1), frozen_of q2, k5, k4, k2, k3, q1, h2 gr (by rw [hv]; rfl), hne i hi, Da.blk_lt q2, fun w' X' hf hb hl => ?_, fun w' g' cap' l' X' hf hb hl hg hbg hSg => ?_⟩
  · refine ⟨us, gs, own_frm_off h1 hf (fun k hk e => ?_), h2, h3, fun j hj => ?_⟩
    · rw [hv] at hk
      exact hne i hi ((by simpa [Value.ownBlock] using hk : gr = k).trans e)
    · obtain ⟨cap2, m1, m2, m3, m4, m5⟩ := h4 j hj
      by_cases e : j = i
      · subst e
        rw [k1] at m1
        simp only [Option.some.injEq, Value.slice.injEq, true_and] at m1
        obtain rfl := m1
        simp only [if_true]
        exact ⟨cap, k1, k2, k3, hl, hb⟩
      · simp only [if_neg e]
        exact ⟨cap2, m1, m2, m3, m4, m5.off hf (fun e2 => e (h3 j i hj hi e2))⟩
  · have hgr' : w'.heap[gr]? = some (.cells cur 36 (0, 0)) := (hf.block gr (Da.blk_lt q2) (hne i hi)).trans q2
    have hgne : g' ≠ gr := by
      intro e
      rw [e] at hb
      exact absurd (hb.type hgr') (by decide)
    have hset := blk_set (i := i) (v := Value.slice (some ⟨g', 0, none⟩) l' cap') hgr'
    refine ⟨us.set i (.slice (some ⟨g', 0, none⟩) l' cap'), fun j => if j = i then g' else gs j, ⟨by simp [h1.1], .inr ⟨gr, c, _, hv, q1, hset, q3, q4, by simpa using q5, ?_⟩⟩, h2, fun a b ha hb' e => ?_, fun j hj => ?_⟩
    · rw [Array.toList_setIfInBounds, List.take_set, q6]
    · have lt : ∀ j, j < n → gs j < w.heap.size := fun j hj => by obtain ⟨_, _, _, _, _, m5⟩ := h4 j hj; exact m5.lt
      have aux : ∀ a, a < n → a ≠ i → gs a ≠ g' := by
        intro a ha hne' e
        rcases hg with h5 | h5
        · exact hne' (h3 a i ha hi (e.trans h5))
        · have := lt a ha; omega
      simp only at e
      by_cases ea : a = i <;> by_cases eb : b = i
      · omega
      · rw [if_pos ea, if_neg eb] at e
        exact absurd e.symm (aux b hb' eb)
      · rw [if_neg ea, if_pos eb] at e
        exact absurd e (aux a ha ea)
      · rw [if_neg ea, if_neg eb] at e
        exact h3 a b ha hb' e
    · by_cases e : j = i
      · subst e
        simp only [if_true]
        refine ⟨cap', ?_, hbg, hSg, hl, hb.keep (blk_set_ne hgne)⟩
        rw [List.getElem?_set_self (by omega)]
      · simp only [if_neg e]
        obtain ⟨cap2, m1, m2, m3, m4, m5⟩ := h4 j hj
        refine ⟨cap2, ?_, m2, m3, m4, (m5.off hf (fun e2 => e (h3 j i hj hi e2))).keep (blk_set_ne (hne j hj).symm)⟩
        rw [List.getElem?_set_ne (fun e2 => e e2.symm)]
        exact m1
/-- The records that are read in it. -/
theorem RowW.recsAt {p : Option Addr} {c : Nat} (h : RowW S w base (.slice p n c) n len X) {rs : List Sg.Bytes} (hn : n = rs.length) (hl : ∀ j (hj : j < rs.length), len j = rs[j].length) (hX : ∀ j (hj : j < rs.length) k, k < rs[j].length → k < (X j).length ∧ (X j).getD k 0 = rs[j].getD k 0) : RecsAt w p rs := by
  intro j hj
  obtain ⟨gr, c2, g, cap, h1, h2, h3, h4, h5, h6, h7, h8, _⟩ := h.at_ (i := j) (by omega)
  simp only [Value.slice.injEq, true_and] at h1
  obtain ⟨rfl, rfl⟩ := h1
  rw [hl j hj] at h3 h6
  exact ⟨_, _, cap, rfl, by rw [addO, Nat.zero_add]; exact h3, by have := h5.le; omega, h5.front rfl (fun k hk => hX j hj k hk)⟩
/-- One record more. -/
theorem RowW.snoc (h : RowW S w base v n len X) {w1 w' : World} {v' : Value} {g cap : Nat} (hf : Frm (fun _ => False) w w1) (hrow : ∀ us, w1.ownsRow base 36 1 v n us → w'.ownsRow base 36 1 v' (n + 1) (us ++ [.slice (some ⟨g, 0, none⟩) (len n) cap])) (hg : w1.grownBy w' v.ownBlock)
    (hb : Blk8 w1 g cap (X n)) (hl : len n ≤ (X n).length) (hnew : w.heap.size ≤ g) (hbase : base ≤ g) (hS : ∀ k, base ≤ k → S k) : RowW S w' base v' (n + 1) len X := by
  obtain ⟨us, gs, h1, h2, h3, h4⟩ := h
  have h1' := own_frm h1 hf
  have hul : us.length = n := by have := h1.1; omega
  have hr := hrow us h1'
  have lt : ∀ j, j < n → gs j < w.heap.size := fun j hj => by obtain ⟨_, _, _, _, _, m5⟩ := h4 j hj; exact m5.lt
  have keep : ∀ k cap xs, Blk8 w1 k cap xs → Blk8 w' k cap xs := by
    intro k cap xs hk
    refine hk.keep (hg.block k hk.lt (fun e => ?_))
    rcases h1'.2 with ⟨hv, _⟩ | ⟨g2, cap2, cur, hv, _, hh2, _⟩
    · rw [hv] at e; cases e
    · rw [hv] at e
      obtain rfl : k = g2 := by simpa [Value.ownBlock] using e
      exact absurd (hk.type hh2) (by decide)
  refine ⟨_, fun j => if j = n then g else gs j, hr, fun k hk => hS k (own_low hr hk).1, fun a b ha hb' e => ?_, fun j hj => ?_⟩
  · simp only at e
    by_cases ea : a = n <;> by_cases eb : b = n
    · omega
    · rw [if_pos ea, if_neg eb] at e
      have := lt b (by omega); omega
    · rw [if_neg ea, if_pos eb] at e
      have := lt a (by omega); omega
    · rw [if_neg ea, if_neg eb] at e
      exact h3 a b (by omega) (by omega) e
  · by_cases e : j = n
    · subst e
      simp only [if_true]
      exact ⟨cap, by rw [List.getElem?_append_right (by omega), hul]; simp, hbase, hS _ hbase, hl, keep _ _ _ hb⟩
    · simp only [if_neg e]
      obtain ⟨cap2, m1, m2, m3, m4, m5⟩ := h4 j (by omega)
      exact ⟨cap2, by rw [List.getElem?_append_left (by omega)]; exact m1, m2, m3, m4, keep _ _ _ (m5.off hf id)⟩
end
/-- What Open answers may be written over. -/
theorem RecsOwn.rowB {w : World} {base : Nat} {v : Value} {rs : List Sg.Bytes} (h : RecsOwn w base v rs) : RowW (fun k => base ≤ k) w base v rs.length (fun j => (rs.getD j []).length) (fun j => rs.getD j []) := by
  obtain ⟨us, gs, h1, h2, h3, h4⟩ := h
  refine ⟨us, fun j => gs.getD j 0, h1, fun k hk => (own_low h1 hk).1, fun i j hi hj e => ?_, fun j hj => ?_⟩
  · simp only [List.getD_eq_getElem?_getD] at e
    rw [List.getElem?_eq_getElem (by omega), List.getElem?_eq_getElem (by omega)] at e
    exact (List.getElem_inj h3).1 e
  · obtain ⟨u, g, k1, k2, k3⟩ := h4 j hj
    obtain ⟨cap, rfl, k4, k5⟩ := k3.blk
    have eg : gs.getD j 0 = g := by rw [List.getD_eq_getElem?_getD, k2]; rfl
    have er : rs.getD j [] = rs[j] := by rw [List.getD_eq_getElem?_getD, List.getElem?_eq_getElem hj]; rfl
    simp only [eg, er]
    exact ⟨cap, k1, k5, k5, Nat.le_refl _, k4⟩
end Go.Proofs.YtkmmlfphcfcbgaaGreatDoor.Dw
