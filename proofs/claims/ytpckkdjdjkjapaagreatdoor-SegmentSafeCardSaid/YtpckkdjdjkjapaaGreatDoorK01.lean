/- A part of the proof of segmentSafe_holds: Cu0, Cu1, Cu2, Cu3, Sv0, Sv1. No condition. -/
import Derived.Test.YtpckkdjdjkjapaaGreatDoorK00

/- Records that a row of one's own names; they lie elsewhere. -/
namespace Go.Proofs.YtpckkdjdjkjapaaGreatDoor.Dw
open Go.RowKit Go.ChangeMaps Go.Proofs.YtpckkdjdjkjapaaGreatDoor.Mp Go.Proofs.YtpckkdjdjkjapaaGreatDoor.Dm Go.Proofs.YtpckkdjdjkjapaaGreatDoor.Da Go.Shelf
open Go.Proofs.YtpckkdjdjkjapaaGreatDoor.Sg (SegS packE Over Group heavyN)
open Go.Proofs.YtpckkdjdjkjapaaGreatDoorW.PrintWords (ReadsInt string_of_reads)
set_option linter.unusedVariables false
set_option linter.unusedSimpArgs false
set_option linter.unusedSectionVars false
/-- A row of slices of one's own; what they name lies in blocks of P. -/
def RecsRef (P : Nat → Prop) (w : World) (base : Nat) (v : Value) (rs : List Sg.Bytes) : Prop :=
  ∃ us : List Value, w.ownsRow base 40 1 v rs.length us ∧ ∀ j (h : j < rs.length), ∃ p c, us[j]? = some (.slice p rs[j].length c) ∧ rs[j].length ≤ c ∧ ReadsInt w .u8 p rs[j].length rs[j] ∧ (0 < rs[j].length → ∀ a, p = some a → P a.block)
theorem RecsRef.nil (P : Nat → Prop) (w : World) (base : Nat) : RecsRef P w base (.slice none 0 0) [] := ⟨[], World.ownsRow_nil w base _ 1, fun j h => absurd h (by simp)⟩
theorem add_blk (a : Addr) (j : Nat) : (a.add j).block = a.block := by unfold Addr.add; split <;> rfl
theorem cellF {w w' : World} {F : Nat → Prop} (hf : Frm F w w') {a : Addr} {v : Value} (h : w.cell? a = some v) (hF : ¬ F a.block) : w'.cell? a = some v := by
  obtain ⟨g, o, sp⟩ := a
  obtain rfl : sp = none := spot_none h
  exact (hf.cell (World.block_lt_of_cell? _ _ h) hF).trans h
theorem reads_keep {w w' : World} {F : Nat → Prop} {k : IntKind} {p : Option Addr} {n : Nat} {xs : List Int} (h : ReadsInt w k p n xs) (hf : Frm F w w') (hF : 0 < n → ∀ a, p = some a → ¬ F a.block) : ReadsInt w' k p n xs := by
  refine ⟨h.1, h.2.1, fun hn => ?_⟩
  obtain ⟨a, e, hc⟩ := h.2.2 hn
  refine ⟨a, e, fun j hj => ?_⟩
  exact cellF hf (hc j hj) (by rw [add_blk]; exact hF hn a e)
theorem RecsRef.keep {P F : Nat → Prop} {w w' : World} {base : Nat} {v : Value} {rs : List Sg.Bytes} (h : RecsRef P w base v rs) (hf : Frm F w w') (hP : ∀ k, P k → ¬ F k) (hv : ∀ g, v.ownBlock = some g → ¬ F g) : RecsRef P w' base v rs := by
  obtain ⟨us, h1, h2⟩ := h
  refine ⟨us, ownsRow.same h1 fun g hg => hf.block g (own_low h1 hg).2 (hv g hg), fun j hj => ?_⟩
  obtain ⟨p, c, h3, h4, h5, h6⟩ := h2 j hj
  exact ⟨p, c, h3, h4, reads_keep h5 hf (fun hn a e => hP _ (h6 hn a e)), h6⟩
theorem RecsRef.frm {P : Nat → Prop} {w w' : World} {base : Nat} {v : Value} {rs : List Sg.Bytes} (h : RecsRef P w base v rs) (hf : Frm (fun _ => False) w w') : RecsRef P w' base v rs := h.keep hf (fun _ _ h => h) (fun _ _ h => h)
theorem RecsRef.mono {P Q : Nat → Prop} {w : World} {base : Nat} {v : Value} {rs : List Sg.Bytes} (h : RecsRef P w base v rs) (hPQ : ∀ k, P k → Q k) : RecsRef Q w base v rs := by
  obtain ⟨us, h1, h2⟩ := h
  refine ⟨us, h1, fun j hj => ?_⟩
  obtain ⟨p, c, h3, h4, h5, h6⟩ := h2 j hj
  exact ⟨p, c, h3, h4, h5, fun hn a e => hPQ _ (h6 hn a e)⟩
theorem RecsRef.form {P : Nat → Prop} {w : World} {base : Nat} {v : Value} {rs : List Sg.Bytes} (h : RecsRef P w base v rs) : ∃ p c, v = .slice p rs.length c ∧ rs.length ≤ c := by
  obtain ⟨us, h1, _⟩ := h
  rcases h1.2 with ⟨hv, h0⟩ | ⟨g, cap, cur, hv, _, _, h3, _⟩
  · exact ⟨none, 0, by rw [hv, h0], by omega⟩
  · exact ⟨_, _, hv, h3⟩
theorem RecsRef.at_ {P : Nat → Prop} {w : World} {base : Nat} {p : Option Addr} {c n : Nat} {rs : List Sg.Bytes} (h : RecsRef P w base (.slice p n c) rs) : RecsAt w p rs := by
  intro j hj
  obtain ⟨us, h1, h2⟩ := h
  obtain ⟨q, k, h5, h8, h9, _⟩ := h2 j hj
  rcases h1.2 with ⟨hv, h0⟩ | ⟨g', cap', cur, hv, r1, r2, r3, r4, r5, r6⟩
  · omega
  · simp only [Value.slice.injEq] at hv
    obtain ⟨rfl, _, rfl⟩ := hv
    refine ⟨_, _, k, rfl, ?_, h8, h9⟩
    rw [addO, Nat.zero_add]
    refine cell_of r2 ?_
    have e : (cur.toList.take (rs.length * 1))[j]? = us[j]? := by rw [r6]
    rw [List.getElem?_take_of_lt (by omega), Array.getElem?_toList] at e
    rw [e]; exact h5
/-- The slices of a row that is read. -/
def headsOf (w : World) (A : Option Addr) (n : Nat) : List Value := (List.range n).map fun j => (A.bind fun a => w.cell? (a.add j)).getD .nilIface
theorem heads_at {w : World} {a : Addr} {n j : Nat} {u : Value} (hj : j < n) (h : w.cell? (a.add j) = some u) : (headsOf w (some a) n)[j]? = some u := by
  unfold headsOf
  rw [List.getElem?_map, List.getElem?_range hj]
  simp [h]
section
variable {w : World} {ops : Array Oper} {rest : List Oper} {o : Oper} {a : Act} {Q : Exit → Act → World → Prop}
/-- 'append(all, records...)'. -/
theorem wpl_append_recs (hgd : o.guard = none) (s x : Operand) (ho : o.op = .call { callee := .builtin .append, args := #[s, x], argTypes := #[61, 61] })
    {P : Nat → Prop} {base : Nat} {v : Value} {rs : List Sg.Bytes} (hs : a.eval s = v) (hown : RecsRef P w base v rs) {A : Option Addr} {n c : Nat} {ms : List Sg.Bytes} (hx : a.eval x = .slice A n c) (hn : n = ms.length) (hm : RecsAt w A ms)
    (hlow : ∀ j (h : j < ms.length) a0 p k, A = some a0 → w.cell? (a0.add j) = some (.slice p ms[j].length k) → 0 < ms[j].length → ∀ b, p = some b → P b.block) (hP : ∀ k, P k → v.ownBlock ≠ some k)
    (hlen : rs.length + ms.length ≤ 4398046511104) (hb : base ≤ w.heap.size)
    (h : ∀ v' w', RecsRef P w' base v' (rs ++ ms) → w.grownBy w' v.ownBlock →
      (v'.ownBlock = v.ownBlock ∨ ∀ g, v'.ownBlock = some g → w.heap.size ≤ g) → wpList Tryz.prog ops Q rest (a.put o.dst v') w') :
    wpList Tryz.prog ops Q (o :: rest) a w := by
  subst hn
  obtain ⟨i0, hi0, hz0, hz1, hz2⟩ := info_parts recsInfo
  have hmx : maxLen = 9223372036854775807 := by decide
  obtain ⟨p0, c0, hform, hc0⟩ := hown.form
  by_cases h0 : ms = []
  · subst h0
    subst hform
    have hsrc : Src Tryz.prog i0.size 61 (.slice A 0 c) 0 [] w := by
      cases A with
      | none => exact Src.ofNil w Tryz.underlying61 c
      | some ad => exact Src.ofSlice w Tryz.underlying61 ad 0 c [] (by simp) (by simp) (by simp)
    have hrun := run_append_nothing w 61 61 o.type 40 i0 Tryz.underlying61 hi0 p0 rs.length c0 hc0 (.slice A 0 c) hsrc
    have hx' : a.eval x = .slice A 0 c := hx
    refine wpList_plain hgd fun K hK => ?_
    unfold Oper.wp
    simp only [execOp, ho, resolve, invoke, builtin, Sem.run_bind, Sem.run_pure, Result.andThen_ok, List.map_toArray, List.map_cons, List.map_nil, hs, hx', hrun]
    exact hK _ _ (h _ w (by simpa using hown) (World.grownBy.refl _ _) (.inl rfl))
  · have hpos : 0 < ms.length := List.length_pos_iff.2 h0
    obtain ⟨ad, _, _, rfl, _⟩ := hm 0 hpos
    obtain ⟨us, h1, h2⟩ := hown
    have hnews : ∀ j u, (headsOf w (some ad) ms.length)[j]? = some u → w.cell? (ad.add j) = some u := by
      intro j u hu
      have hj : j < ms.length := by
        have := (List.getElem?_eq_some_iff.1 hu).1
        simpa [headsOf] using this
      obtain ⟨a1, p1, c1, e1, k1, _⟩ := hm j hj
      cases e1
      rw [heads_at hj k1] at hu
      rw [k1, hu]
    have hone : ∀ u, u ∈ headsOf w (some ad) ms.length → u.oneCell' = true := by
      intro u hu
      obtain ⟨j, hj, rfl⟩ := List.getElem_of_mem hu
      have hj2 : j < ms.length := by simpa [headsOf] using hj
      obtain ⟨a1, p1, c1, e1, k1, _⟩ := hm j hj2
      cases e1
      have := heads_at hj2 k1
      rw [List.getElem?_eq_getElem hj] at this
      rw [Option.some.inj this]
      rfl
    refine wpList_append_lies w hgd s x 61 ho base 40 i0 _ 1 24 Tryz.underlying61 hi0 hz0 hz1 hz2 rfl (by omega) v rs.length us hs h1 ad ms.length c (headsOf w (some ad) ms.length) hx (by simp [headsOf]) hnews hone hpos (by omega) (by omega) hb w.heap.size rfl ?_
    intro g cap w' h3 h4 h5 h6
    have hfr : ∀ k, P k → ¬ (some k = v.ownBlock) := fun k hk e => hP k hk e.symm
    have hgf : Frm (fun k => some k = v.ownBlock) w w' := ⟨h4.os, h4.tape, h4.output, h4.size, fun i hi hn => h4.block i hi hn⟩
    refine h _ w' ⟨us ++ headsOf w (some ad) ms.length, ?_, fun j hj => ?_⟩ h4 ?_
    · rw [List.length_append]; exact h3
    · rw [List.length_append] at hj
      have hul : us.length = rs.length := by have := h1.1; omega
      rcases Nat.lt_or_ge j rs.length with hlt | hge
      · obtain ⟨p, c2, k1, k2, k3, k4⟩ := h2 j hlt
        rw [List.getElem_append_left hlt]
        exact ⟨p, c2, by rw [List.getElem?_append_left (by omega)]; exact k1, k2, reads_keep k3 hgf (fun hn a e => hfr _ (k4 hn a e)), k4⟩
      · have hj2 : j - rs.length < ms.length := by omega
        obtain ⟨a1, p1, c1, e1, k1, k2, k3⟩ := hm (j - rs.length) hj2
        cases e1
        have hl := hlow (j - rs.length) hj2 ad p1 c1 rfl k1
        rw [List.getElem_append_right hge]
        exact ⟨p1, c1, by rw [List.getElem?_append_right (by omega), hul]; exact heads_at hj2 k1, k2, reads_keep k3 hgf (fun hn a e => hfr _ (hl hn a e)), hl⟩
    · rcases h5 with h5 | h5
      · exact .inl h5.symm
      · refine .inr fun g' e => ?_
        have : g = g' := by simpa [Value.ownBlock] using e
        omega
end
end Go.Proofs.YtpckkdjdjkjapaaGreatDoor.Dw

/- A segment with other bytes behind its blocks. -/
namespace Go.Proofs.YtpckkdjdjkjapaaGreatDoor.Dw
open Go.RowKit Go.ChangeMaps Go.Proofs.YtpckkdjdjkjapaaGreatDoor.Mp Go.Proofs.YtpckkdjdjkjapaaGreatDoor.Dm Go.Proofs.YtpckkdjdjkjapaaGreatDoor.Da Go.Shelf
open Go.Proofs.YtpckkdjdjkjapaaGreatDoor.Sg (SegS packE Over Group heavyN)
open Go.Proofs.YtpckkdjdjkjapaaGreatDoorW.PrintWords (ReadsInt string_of_reads)
set_option linter.unusedVariables false
set_option linter.unusedSimpArgs false
set_option linter.unusedSectionVars false
theorem trunc_good {f : FileS} (h : ∀ k, f.badSeen k = false) (n : Int) : ∀ k, (f.trunc n).badSeen k = false := by
  intro k
  show cutBad f.badSeen n k = false
  unfold cutBad
  simp [h k]
/-- A segment over a disk of one file, nothing fails; what is in the file is whatever. -/
structure QJ (B : Nat) (w : World) (b : Nat) (lab : Nat → Option Lb) (eb : Nat → Addr) (L : List Err) (n m : Nat) (D : Disk) (sb : Nat) (s : SegS) (x : Nat) (f : FileS) : Prop where
  seg : SegL B w b lab eb L n m D sb s
  one : One (nmOf x) f D
  quiet : Quiet D
  nmx : s.nm = nmOf x
  low : B ≤ w.heap.size
  bad : ∀ k, f.badSeen k = false
section
variable {B : Nat} {w : World} {b : Nat} {lab : Nat → Option Lb} {eb : Nat → Addr} {L : List Err} {n m : Nat} {D : Disk} {sb : Nat} {s : SegS} {x : Nat} {gs : List (List Sg.Bytes)} {f : FileS}
theorem QS.toQJ (h : QS B w b lab eb L n m D sb s x gs f) : QJ B w b lab eb L n m D sb s x f := ⟨h.seg, h.one, h.quiet, h.nmx, h.low, h.bad⟩
theorem QJ.frm (h : QJ B w b lab eb L n m D sb s x f) {w' : World} (hf : Frm (fun _ => False) w w') : QJ B w' b lab eb L n m D sb s x f :=
  ⟨h.seg.frm hf, h.one, h.quiet, h.nmx, Nat.le_trans h.low hf.size, h.bad⟩
theorem QJ.own (h : QJ B w b lab eb L n m D sb s x f) : ∀ k, (k = sb ∨ Ft lab k) → B ≤ k := fun k hk => hk.elim (fun e => e ▸ h.seg.low) (h.seg.live.base k)
def NextJ (B : Nat) (w : World) (lab : Nat → Option Lb) (w' : World) (b : Nat) (eb : Nat → Addr) (L : List Err) (n m : Nat) (D : Disk) (sb : Nat) (s : SegS) (x : Nat) (f : FileS) : Prop :=
  ∃ lab', QJ B w' b lab' eb L n m D sb s x f ∧ Frm (fun k => k = sb ∨ Ft lab k) w w' ∧ ∀ k, k < w.heap.size → Ft lab' k → Ft lab k
/-- Other bytes are appended to the segment's file. -/
theorem QJ.junk (h : QJ B w b lab eb L n m D sb s x f) (A : Option Addr) (c : Nat) (junk : List Int) (hr : ReadsInt w .u8 A junk.length junk) (hc : junk.length ≤ c) (hb : ∀ x, x ∈ junk → 0 ≤ x ∧ x < 256) (hlow : 0 < junk.length → ∀ a, A = some a → a.block < B) (hf : DFit (n + 1) (m + junk.length)) :
    Calls Tryz.prog 39 #[dptr b, .string (nmOf x), .slice A junk.length c] w fun e w' => e = .returned .nilIface ∧ ∃ D', D'.count = D.count + 1 ∧ NextJ B w lab w' b eb L (n + 1) (m + junk.length) D' sb s x (FileS.add junk f) := by
  obtain ⟨a1, a2, a3, a4⟩ := h.one.appendQ h.quiet junk
  have hG : Given w lab (.slice A junk.length c) junk := ⟨fromReads hr rfl, fun h0 g o n' c' e => by
    simp only [Value.slice.injEq] at e
    have hp : 0 < junk.length := List.length_pos_iff.2 h0
    have hlt : g < B := hlow hp ⟨g, o, none⟩ e.1
    refine ⟨Nat.lt_of_lt_of_le hlt h.low, ?_⟩
    cases hl : lab g with
    | none => rfl
    | some p => exact absurd (h.seg.live.base g (by unfold Ft; rw [hl]; rfl)) (by omega)⟩
  have K := h.seg.live.appendW (nmOf x) A c junk hf hG hc hb
  rw [a1, errV_zero] at K
  refine K.mono ?_
  rintro e w' ⟨rfl, hn⟩
  obtain ⟨lab', h1, h2, h3⟩ := h.seg.turn hn
  exact ⟨rfl, _, a4, lab', ⟨h1, a2, a3, h.nmx, Nat.le_trans h.low h2.size, Sg.add_good h.bad _⟩, h2, h3⟩
/-- Another segment over the same file. -/
theorem QJ.open_ (h : QJ B w b lab eb L n m D sb s x f) (hx : 1 ≤ x ∧ x ≤ 4611686018427387904) (hby : ∀ x, x ∈ f.seen → 0 ≤ x ∧ x < 256) (rs : List Sg.Bytes) (k : Nat) (hs : Sg.scanAll f.seen [] x = (rs, k)) :
    Calls Tryz.prog 36 #[dptr b, .int .u64 x] w fun e w' => ∃ sb2 p c, e = .returned (.tuple #[segP sb2, .slice p rs.length c, .nilIface]) ∧ w.heap.size ≤ sb2 ∧ QJ B w' b lab eb L n m D sb2 ⟨nmOf x, x + rs.length, k, decide (f.seen.length = k * 512), false⟩ x f ∧ RecsOwn w' w.heap.size (.slice p rs.length c) rs ∧ Frm (fun _ => False) w w' := by
  have hrd := h.one.read h.quiet.off
  rw [Sg.numbers_none h.bad] at hrd
  have hln : f.seen.length ≤ 4398046511104 := by
    have h1 := h.seg.live.sz.len f (by rw [h.one.files]; exact List.mem_singleton_self _)
    exact Nat.le_trans h1 h.seg.live.hm
  have K := open9_calls h.seg.live h.seg.env x hx f.seen [] hrd h.low hln (by simp) hby
  have hs2 : openS x f.seen [] = ⟨nmOf x, x + rs.length, k, decide (f.seen.length = k * 512), false⟩ := by unfold openS; rw [hs]
  rw [hs2, hs] at K
  refine K.mono ?_
  rintro e w' ⟨sb2, p, c, rfl, h1, h2, h3, h4⟩
  exact ⟨sb2, p, c, rfl, h1, ⟨h2, h.one, h.quiet, rfl, Nat.le_trans h.low h4.size, h.bad⟩, h3, h4⟩
/-- What stands behind the blocks is taken off. -/
theorem QJ.cut (h : QJ B w b lab eb L n m D sb s x f) (hsi : s.sick = false) (hw : s.whole = false) (hk : s.blocks * 512 ≤ f.seen.length) (hf : DFit (n + 1) m) :
    Calls Tryz.prog 44 #[segP sb] w fun e w' => e = .returned .nilIface ∧ ∃ D', D'.count = D.count + 1 ∧ NextJ B w lab w' b eb L (n + 1) m D' sb { s with whole := true } x (f.trunc ((s.blocks * 512 : Nat) : Int)) := by
  obtain ⟨a1, a2, a3, a4⟩ := h.one.truncQ h.quiet s.blocks hk
  have K := cut_goes h.seg hsi hw hf
  rw [h.nmx, a1, errV_zero, if_pos rfl] at K
  refine K.mono ?_
  rintro e w' ⟨rfl, lab', h1, h2, h3⟩
  have e0 : ({ s with whole := true } : SegS) = ⟨nmOf x, s.next, s.blocks, true, s.sick⟩ := by rw [← h.nmx]
  rw [e0]
  exact ⟨rfl, _, a4, lab', ⟨h1, a2, a3, rfl, Nat.le_trans h.low h2.size, trunc_good h.bad _⟩, h2, h3⟩
/-- Records that Pack takes, whatever is in the file. -/
theorem QJ.append (h : QJ B w b lab eb L n m D sb s x f) (hsi : s.sick = false) (hwh : s.whole = true) (A : Option Addr) (c : Nat) (rs : List Sg.Bytes) (hr : RecsAt w A rs) (hc : rs.length ≤ c) (hl : rs.length ≤ 68719476736) (hb : ∀ r, r ∈ rs → ∀ x, x ∈ r → 0 ≤ x ∧ x < 256) (h0 : rs ≠ []) (hp : (packE s.next rs).1 = 0)
    (hf : DFit (n + 1) (m + (packE s.next rs).2.length)) (hbl : s.blocks + (packE s.next rs).2.length / 512 ≤ 4398046511104) :
    Calls Tryz.prog 35 #[segP sb, .slice A rs.length c] w fun e w' => e = .returned .nilIface ∧ ∃ D', D'.count = D.count + 1 ∧ NextJ B w lab w' b eb L (n + 1) (m + (packE s.next rs).2.length) D' sb (s.more rs) x (FileS.add (packE s.next rs).2 f) := by
  obtain ⟨a1, a2, a3, a4⟩ := h.one.appendQ h.quiet (packE s.next rs).2
  have K := append_goes h.seg hsi hwh A c rs hr hc hl hb h0 hp hf hbl
  rw [h.nmx, a1, errV_zero, if_pos rfl] at K
  refine K.mono ?_
  rintro e w' ⟨rfl, lab', h1, h2, h3⟩
  exact ⟨rfl, _, a4, lab', ⟨h1, a2, a3, h.nmx, Nat.le_trans h.low h2.size, Sg.add_good h.bad _⟩, h2, h3⟩
theorem QJ.read (h : QJ B w b lab eb L n m D sb s x f) : Calls Tryz.prog 45 #[dptr b, .string (nmOf x)] w fun e w' => ∃ p c q cq, e = .returned (.tuple #[.slice p f.seen.length c, .slice q 0 cq, .nilIface]) ∧ Frm (fun _ => False) w w' := by
  have hrd := h.one.read h.quiet.off
  rw [Sg.numbers_none h.bad] at hrd
  have K := h.seg.live.read (nmOf x)
  simp only [hrd, errV_zero] at K
  refine K.mono ?_
  rintro e w' ⟨dv, bv, rfl, hr1, hr2, hf2⟩
  obtain ⟨pd, cd, rfl⟩ := own_form hr1
  obtain ⟨pb, cb, rfl⟩ := own_form hr2
  exact ⟨pd, cd, pb, cb, rfl, hf2⟩
theorem QJ.ops (h : QJ B w b lab eb L n m D sb s x f) : Calls Tryz.prog 28 #[dptr b] w fun e w' => e = .returned (.int .i64 D.count) ∧ w' = w := h.seg.live.ops
end
end Go.Proofs.YtpckkdjdjkjapaaGreatDoor.Dw

/- SegmentCuts: while the groups are handed in. -/
namespace Go.Proofs.YtpckkdjdjkjapaaGreatDoor.Dw
open Go.RowKit Go.ChangeMaps Go.Proofs.YtpckkdjdjkjapaaGreatDoor.Mp Go.Proofs.YtpckkdjdjkjapaaGreatDoor.Dm Go.Proofs.YtpckkdjdjkjapaaGreatDoor.Da Go.Shelf
open Go.Proofs.YtpckkdjdjkjapaaGreatDoor.Sg (SegS packE Over Group heavyN)
open Go.Proofs.YtpckkdjdjkjapaaGreatDoorW.PrintWords (ReadsInt string_of_reads)
set_option linter.unusedVariables false
set_option linter.unusedSimpArgs false
set_option linter.unusedSectionVars false
theorem DFit.nine {n m : Nat} (hn : n ≤ 5000000) (hm : m ≤ 600000000) : DFit n m :=
  ⟨by omega, by omega, Nat.le_trans (Nat.mul_le_mul hn (show (m + 511) / 512 ≤ 1171876 by omega)) (by decide)⟩
theorem groupSum_succ {gs : List Group} {i : Nat} (hi : i < gs.length) : Sg.groupSum (gs.take (i + 1)) = Sg.groupSum (gs.take i) + (1 + Sg.recSum gs[i].1) := by
  rw [List.take_succ_eq_append_getElem hi]
  unfold Sg.groupSum
  rw [List.map_append, List.sum_append]
  simp only [List.map_cons, List.map_nil, List.sum_cons, List.sum_nil, Nat.add_zero]
section
variable {B : Nat} {w : World} {b : Nat} {lab : Nat → Option Lb} {eb : Nat → Addr} {L : List Err} {n m : Nat} {D : Disk} {sb : Nat} {s : SegS} {x : Nat} {gs : List (List Sg.Bytes)} {f : FileS}
theorem SegL.off (h : SegL B w b lab eb L n m D sb s) {w' : World} {F : Nat → Prop} (hf : Frm F w w') (hF : ∀ k, F k → k ≠ sb ∧ ¬ Ft lab k ∧ B ≤ k) : SegL B w' b lab eb L n m D sb s :=
  ⟨h.live.frmF hf (fun k hk => (hF k hk).2.1) (fun k hk => (hF k hk).2.2), h.env.frm hf (fun k hk => (hF k hk).2.2), (hf.block sb h.lt (fun hk => (hF sb hk).1 rfl)).trans h.blk, h.out, h.low, h.nm, h.nxt, h.blo⟩
theorem QS.off (h : QS B w b lab eb L n m D sb s x gs f) {w' : World} {F : Nat → Prop} (hf : Frm F w w') (hF : ∀ k, F k → k ≠ sb ∧ ¬ Ft lab k ∧ B ≤ k) : QS B w' b lab eb L n m D sb s x gs f :=
  ⟨h.seg.off hf hF, h.one, h.quiet, h.over, h.nmx, Nat.le_trans h.low hf.size, h.bad⟩
theorem QJ.off (h : QJ B w b lab eb L n m D sb s x f) {w' : World} {F : Nat → Prop} (hf : Frm F w w') (hF : ∀ k, F k → k ≠ sb ∧ ¬ Ft lab k ∧ B ≤ k) : QJ B w' b lab eb L n m D sb s x f :=
  ⟨h.seg.off hf hF, h.one, h.quiet, h.nmx, Nat.le_trans h.low hf.size, h.bad⟩
end
theorem grown_frm {w w' : World} {r : Option Nat} (h : w.grownBy w' r) : Frm (fun k => r = some k) w w' := ⟨h.os, h.tape, h.output, h.size, fun i hi hn => h.block i hi (fun e => hn e.symm)⟩
/-- At the head of the loop, and in a round: the segment holds gs, the list rs. -/
structure CutAt (w2 W : World) (eb : Nat → Addr) (L : List Err) (sb x : Nat) (gs0 : List Group) (i : Nat) (v : Value) (gs : List (List Sg.Bytes)) (rs : List Sg.Bytes) : Prop where
  seg : ∃ lab n m D s f, QS w2.heap.size W (w2.heap.size + 2) lab eb L n m D sb s x gs f ∧ (∀ g, v.ownBlock = some g → g ≠ sb ∧ ¬ Ft lab g) ∧ n ≤ 2 + i ∧ m ≤ 512 * gs.flatten.length
  all : RecsRef (fun k => k < w2.heap.size) W w2.heap.size v rs
  frm : Frm (fun _ => False) w2 W
  cnt : 8 * gs.flatten.length + i ≤ Sg.groupSum (gs0.take i)
  byt : ∀ r, r ∈ gs.flatten → ∀ x, x ∈ r → 0 ≤ x ∧ x < 256
section
variable {w2 W : World} {eb : Nat → Addr} {L : List Err} {sb x : Nat} {gs0 : List Group} {i : Nat} {v : Value} {gs : List (List Sg.Bytes)} {rs : List Sg.Bytes}
theorem CutAt.low (h : CutAt w2 W eb L sb x gs0 i v gs rs) : w2.heap.size ≤ W.heap.size := h.frm.size
theorem CutAt.step (h : CutAt w2 W eb L sb x gs0 i v gs rs) (hi : i < gs0.length) : CutAt w2 W eb L sb x gs0 (i + 1) v gs rs := by
  obtain ⟨lab, n, m, D, s, f, h1, h2, h3, h4⟩ := h.seg
  exact ⟨⟨lab, n, m, D, s, f, h1, h2, by omega, h4⟩, h.all, h.frm, by rw [groupSum_succ hi]; have := h.cnt; omega, h.byt⟩
theorem CutAt.keep (h : CutAt w2 W eb L sb x gs0 i v gs rs) {W' : World} (hf : Frm (fun _ => False) W W') : CutAt w2 W' eb L sb x gs0 i v gs rs := by
  obtain ⟨lab, n, m, D, s, f, h1, h2⟩ := h.seg
  exact ⟨⟨lab, n, m, D, s, f, h1.frm hf, h2⟩, h.all.frm hf, h.frm.trans hf (fun _ _ h => h), h.cnt, h.byt⟩
/-- The list has grown. -/
theorem CutAt.grow (h : CutAt w2 W eb L sb x gs0 i v gs rs) {W' : World} {v' : Value} {rs' : List Sg.Bytes} (hr : RecsRef (fun k => k < w2.heap.size) W' w2.heap.size v' rs') (hg : W.grownBy W' v.ownBlock) (hn : v'.ownBlock = v.ownBlock ∨ ∀ g, v'.ownBlock = some g → W.heap.size ≤ g) : CutAt w2 W' eb L sb x gs0 i v' gs rs' := by
  obtain ⟨lab, n, m, D, s, f, h1, h2, h3, h4⟩ := h.seg
  have hbase : ∀ k, v.ownBlock = some k → w2.heap.size ≤ k := fun k hk => by
    obtain ⟨us, k1, _⟩ := h.all
    exact (own_low k1 hk).1
  refine ⟨⟨lab, n, m, D, s, f, h1.off (grown_frm hg) (fun k hk => ⟨(h2 k hk).1, (h2 k hk).2, hbase k hk⟩), fun g e => ?_, h3, h4⟩, hr, h.frm.trans (grown_frm hg) (fun k hk e => by have := hbase k e; omega), h.cnt, h.byt⟩
  rcases hn with hn | hn
  · exact h2 g (by rw [← hn]; exact e)
  · have h5 := hn g e
    refine ⟨fun e => by have := h1.seg.lt; omega, ?_⟩
    unfold Ft
    rw [h1.seg.live.low_of h5]
    simp
theorem CutAt.idle (h : CutAt w2 W eb L sb x gs0 i v gs rs) (A : Option Addr) (c : Nat) : Calls Tryz.prog 35 #[segP sb, .slice A 0 c] W fun e w' => e = .returned .nilIface ∧ w' = W := by
  obtain ⟨lab, n, m, D, s, f, h1, h2, h3, h4⟩ := h.seg
  exact append_none h1.seg h1.over.well h1.over.whole A c
theorem CutAt.few (h : CutAt w2 W eb L sb x gs0 i v gs rs) (hv : heavyN gs0 ≤ 4194304) : 8 * gs.flatten.length + i ≤ 4194304 := by
  have h1 := h.cnt
  have h2 := Sg.heavy_sum hv
  have h3 := Sg.groupSum_take gs0 i
  omega
/-- Records that go. -/
theorem CutAt.goes (h : CutAt w2 W eb L sb x gs0 i v gs rs) (hv : heavyN gs0 ≤ 4194304) (hx : 1 ≤ x ∧ x ≤ 2305843009213693952) (hi : i < gs0.length) (A : Option Addr) (c : Nat) (ms : List Sg.Bytes) (hms : ms = gs0[i].1) (hr : RecsAt W A ms) (hc : ms.length ≤ c) (hb : ∀ r, r ∈ ms → ∀ x, x ∈ r → 0 ≤ x ∧ x < 256) (h0 : ms ≠ []) (hp : (packE (x + gs.flatten.length) ms).1 = 0) :
    Calls Tryz.prog 35 #[segP sb, .slice A ms.length c] W fun e w' => e = .returned .nilIface ∧ ∃ gs', gs'.flatten = gs.flatten ++ ms ∧ CutAt w2 w' eb L sb x gs0 (i + 1) v gs' rs := by
  obtain ⟨lab, n, m, D, s, f, h1, h2, h3, h4⟩ := h.seg
  have hfew := h.few hv
  have hgi : Sg.groupSum (gs0.take (i + 1)) ≤ 4194304 := Nat.le_trans (Sg.groupSum_take gs0 (i + 1)) (Sg.heavy_sum hv)
  rw [groupSum_succ hi, ← hms] at hgi
  have hrl := Sg.recSum_len ms
  have hcn := h.cnt
  rw [← h1.over.next] at hp
  obtain ⟨p1, p2, p3⟩ := Sg.packE_ok h0 hp
  have hsz := Sg.packE_size s.next ms
  have hfl : (gs ++ Sg.cutRecs ms.length ms).flatten = gs.flatten ++ ms := by
    rw [List.flatten_append, Sg.cutRecs_flatten ms.length ms (Nat.le_refl _) p2]
  have hbl : s.blocks * 512 ≤ m := by
    have k1 := h1.seg.live.sz.len f (by rw [h1.one.files]; exact List.mem_singleton_self _)
    rw [h1.over.seen, Sg.lay_length Sg.crc gs x h1.over.good] at k1
    rw [h1.over.blocks]
    omega
  have K := h1.append (by omega) A c ms hr hc (by omega) hb h0 hp (.nine (by omega) (by omega)) (by omega)
  refine K.mono ?_
  rintro e w' ⟨rfl, D', hc', lab', k1, k2, k3⟩
  have hF : ∀ k, (k = sb ∨ Ft lab k) → w2.heap.size ≤ k := h1.own
  refine ⟨rfl, _, hfl, ⟨lab', n + 1, _, D', _, _, k1, fun g e => ?_, by omega, ?_⟩, ?_, ?_, ?_, ?_⟩
  · obtain ⟨j1, j2⟩ := h2 g e
    obtain ⟨us, j3, _⟩ := h.all
    exact ⟨j1, fun hk => j2 (k3 g (own_low j3 e).2 hk)⟩
  · rw [hfl, List.length_append]; omega
  · refine h.all.keep k2 (fun k hk hF2 => by have := hF k hF2; omega) (fun g e hk => ?_)
    obtain ⟨j1, j2⟩ := h2 g e
    exact hk.elim j1 j2
  · exact h.frm.trans k2 (fun k hk hF2 => by have := hF k hF2; omega)
  · rw [hfl, List.length_append, groupSum_succ hi, ← hms]
    omega
  · rw [hfl]
    intro r hr
    rcases List.mem_append.1 hr with hr | hr
    · exact h.byt r hr
    · exact hb r hr
end
end Go.Proofs.YtpckkdjdjkjapaaGreatDoor.Dw

/- SegmentCuts: other bytes behind the blocks; opened again. -/
namespace Go.Proofs.YtpckkdjdjkjapaaGreatDoor.Dw
open Go.RowKit Go.ChangeMaps Go.Proofs.YtpckkdjdjkjapaaGreatDoor.Mp Go.Proofs.YtpckkdjdjkjapaaGreatDoor.Dm Go.Proofs.YtpckkdjdjkjapaaGreatDoor.Da Go.Shelf
open Go.Proofs.YtpckkdjdjkjapaaGreatDoor.Sg (SegS packE Over Group heavyN)
open Go.Proofs.YtpckkdjdjkjapaaGreatDoorW.PrintWords (ReadsInt string_of_reads)
set_option linter.unusedVariables false
set_option linter.unusedSimpArgs false
set_option linter.unusedSectionVars false
theorem recs_low {w W : World} {A : Option Addr} {rs : List Sg.Bytes} (hr : RecsAt w A rs) (hf : Frm (fun _ => False) w W) {B : Nat} (hB : w.heap.size ≤ B) : ∀ j (h : j < rs.length) a0 p k, A = some a0 → W.cell? (a0.add j) = some (.slice p rs[j].length k) → 0 < rs[j].length → ∀ b, p = some b → b.block < B := by
  intro j hj a0 p k hA hc h0 b hb
  obtain ⟨a1, p1, c1, e1, k1, k2, k3⟩ := hr j hj
  rw [hA] at e1
  cases e1
  have h1 := frmC hf k1
  rw [hc] at h1
  simp only [Option.some.injEq, Value.slice.injEq, true_and] at h1
  obtain ⟨a2, e2, h2⟩ := k3.2.2 h0
  have h3 := World.block_lt_of_cell? _ _ (h2 0 h0)
  rw [add_blk] at h3
  rw [hb, e2] at h1
  rw [Option.some.inj h1.1]
  omega
theorem RecsRef.apart {P : Nat → Prop} {w : World} {base : Nat} {v : Value} {rs : List Sg.Bytes} (h : RecsRef P w base v rs) {k : Nat} (hk : k < base) : v.ownBlock ≠ some k := fun e => by
  obtain ⟨us, h1, _⟩ := h
  have := (own_low h1 e).1
  omega
/-- Other bytes stand behind the blocks; v: the list; cnt: how many operations. -/
structure JunkAt (P : Nat → Prop) (w2 W : World) (eb : Nat → Addr) (L : List Err) (sb x N : Nat) (v : Value) (rs : List Sg.Bytes) (sd : List Int) (k : Nat) : Prop where
  seg : ∃ lab n m D s f, QJ w2.heap.size W (w2.heap.size + 2) lab eb L n m D sb s x f ∧ f.seen = sd ∧ s.next = x + N ∧ s.blocks = k ∧ (∀ g, v.ownBlock = some g → g ≠ sb ∧ ¬ Ft lab g) ∧ n ≤ 4500000 ∧ m ≤ 300000000
  all : RecsRef P W w2.heap.size v rs
  frm : Frm (fun _ => False) w2 W
section
variable {w2 W : World} {eb : Nat → Addr} {L : List Err} {sb x : Nat} {gs0 : List Group} {i : Nat} {v : Value} {gs : List (List Sg.Bytes)} {rs : List Sg.Bytes}
theorem CutAt.blocks (h : CutAt w2 W eb L sb x gs0 i v gs rs) : Calls Tryz.prog 38 #[segP sb] W fun e w' => e = .returned (.int .i64 gs.length) ∧ w' = W := by
  obtain ⟨lab, n, m, D, s, f, h1, h2, h3, h4⟩ := h.seg
  have := blocks_calls h1.seg
  rwa [h1.over.blocks] at this
theorem CutAt.tab (h : CutAt w2 W eb L sb x gs0 i v gs rs) : Env w2.heap.size W L := by
  obtain ⟨lab, n, m, D, s, f, h1, h2, h3, h4⟩ := h.seg
  exact h1.seg.env
theorem CutAt.nums (h : CutAt w2 W eb L sb x gs0 i v gs rs) : (gs ≠ [] → Sg.numbers x gs.flatten.length) ∧ (∀ g, g ∈ gs → Sg.GoodG g) := by
  obtain ⟨lab, n, m, D, s, f, h1, h2, h3, h4⟩ := h.seg
  exact ⟨h1.over.nums, h1.over.good⟩
/-- Other bytes. -/
theorem CutAt.junk (h : CutAt w2 W eb L sb x gs0 i v gs rs) (hv : heavyN gs0 ≤ 4194304) (A : Option Addr) (c : Nat) (junk : List Int) (hr : ReadsInt W .u8 A junk.length junk) (hc : junk.length ≤ c) (hb : ∀ x, x ∈ junk → 0 ≤ x ∧ x < 256) (hlow : 0 < junk.length → ∀ a, A = some a → a.block < w2.heap.size) (hl : junk.length ≤ 4194304) :
    Calls Tryz.prog 39 #[dptr (w2.heap.size + 2), .string (nmOf x), .slice A junk.length c] W fun e w' => e = .returned .nilIface ∧ JunkAt (fun k => k < w2.heap.size) w2 w' eb L sb x gs.flatten.length v rs (Sg.lay Sg.crc x gs ++ junk) gs.length := by
  have hfew := h.few hv
  obtain ⟨lab, n, m, D, s, f, h1, h2, h3, h4⟩ := h.seg
  refine (h1.toQJ.junk A c junk hr hc hb hlow (.nine (by omega) (by omega))).mono ?_
  rintro e w' ⟨rfl, D', hc', lab', k1, k2, k3⟩
  refine ⟨rfl, ⟨lab', _, _, D', s, _, k1, ?_, h1.over.next, h1.over.blocks, fun g e => ?_, by omega, by omega⟩, ?_, ?_⟩
  · rw [Sg.add_seen, h1.over.seen]
  · obtain ⟨j1, j2⟩ := h2 g e
    obtain ⟨us, j3, _⟩ := h.all
    exact ⟨j1, fun hk => j2 (k3 g (own_low j3 e).2 hk)⟩
  · exact h.all.keep k2 (fun k hk hF2 => by have := h1.own k hF2; omega) (fun g e hk => by
      obtain ⟨j1, j2⟩ := h2 g e
      exact hk.elim j1 j2)
  · exact h.frm.trans k2 (fun k hk hF2 => by have := h1.own k hF2; omega)
end
section
variable {P : Nat → Prop} {w2 W : World} {eb : Nat → Addr} {L : List Err} {sb x N k : Nat} {v : Value} {rs : List Sg.Bytes} {sd : List Int}
theorem JunkAt.keep (h : JunkAt P w2 W eb L sb x N v rs sd k) {W' : World} (hf : Frm (fun _ => False) W W') : JunkAt P w2 W' eb L sb x N v rs sd k := by
  obtain ⟨lab, n, m, D, s, f, h1, h2⟩ := h.seg
  exact ⟨⟨lab, n, m, D, s, f, h1.frm hf, h2⟩, h.all.frm hf, h.frm.trans hf (fun _ _ h => h)⟩
theorem JunkAt.next (h : JunkAt P w2 W eb L sb x N v rs sd k) : Calls Tryz.prog 42 #[segP sb] W fun e w' => e = .returned (.int .u64 ((x + N : Nat) : Int)) ∧ w' = W := by
  obtain ⟨lab, n, m, D, s, f, h1, h2, h3, h4⟩ := h.seg
  have := next_calls h1.seg
  rwa [h3] at this
theorem JunkAt.scan (h : JunkAt P w2 W eb L sb x N v rs sd k) (A : Option Addr) (c : Nat) (junk : List Int) (hr : ReadsInt W .u8 A junk.length junk) (hc : junk.length ≤ c) (hb : ∀ x, x ∈ junk → 0 ≤ x ∧ x < 256) (hl : junk.length ≤ 4194304) (hx : x + N < 18446744073709551616) :
    Calls Tryz.prog 41 #[.slice A junk.length c, .slice none 0 0, .int .u64 ((x + N : Nat) : Int)] W fun e w' => ∃ p c2, e = .returned (.tuple #[.slice p (Sg.scanAll junk [] (x + N)).1.length c2, .int .i64 (Sg.scanAll junk [] (x + N)).2]) ∧ RecsOwn w' W.heap.size (.slice p (Sg.scanAll junk [] (x + N)).1.length c2) (Sg.scanAll junk [] (x + N)).1 ∧ Frm (fun _ => False) W w' := by
  obtain ⟨lab, n, m, D, s, f, h1, h2, h3, h4⟩ := h.seg
  have he := h1.seg.env
  refine (scan_calls he.crc h1.seg.live.ers (he.sub 2 (by decide)) (he.sub 3 (by decide)) (he.sub 5 (by decide)) h1.low A none junk.length c 0 0 junk [] (x + N) hr rfl hc (by omega) hb ⟨rfl, by decide, fun h => absurd h (by decide)⟩ rfl hx).mono ?_
  rintro e w' ⟨v2, rfl, k1, k2⟩
  obtain ⟨p, c2, rfl, _⟩ := k1.form
  exact ⟨p, c2, rfl, k1, k2⟩
/-- The list has grown. -/
theorem JunkAt.grow (h : JunkAt P w2 W eb L sb x N v rs sd k) {P' : Nat → Prop} {W' : World} {v' : Value} {rs' : List Sg.Bytes} (hr : RecsRef P' W' w2.heap.size v' rs') (hg : W.grownBy W' v.ownBlock) (hn : v'.ownBlock = v.ownBlock ∨ ∀ g, v'.ownBlock = some g → W.heap.size ≤ g) : JunkAt P' w2 W' eb L sb x N v' rs' sd k := by
  obtain ⟨lab, n, m, D, s, f, h1, h2, h3, h4, h5, h6⟩ := h.seg
  have hbase : ∀ k, v.ownBlock = some k → w2.heap.size ≤ k := fun k hk => by
    obtain ⟨us, k1, _⟩ := h.all
    exact (own_low k1 hk).1
  refine ⟨⟨lab, n, m, D, s, f, h1.off (grown_frm hg) (fun k hk => ⟨(h5 k hk).1, (h5 k hk).2, hbase k hk⟩), h2, h3, h4, fun g e => ?_, h6⟩, hr, h.frm.trans (grown_frm hg) (fun k hk e => by have := hbase k e; omega)⟩
  rcases hn with hn | hn
  · exact h5 g (by rw [← hn]; exact e)
  · have h7 := hn g e
    refine ⟨fun e => by have := h1.seg.lt; omega, ?_⟩
    unfold Ft
    rw [h1.seg.live.low_of h7]
    simp
/-- Opened again: another segment, that says something else of itself. -/
structure OpAt (w2 W : World) (eb : Nat → Addr) (L : List Err) (sb x : Nat) (s : SegS) (sl cnt n0 : Nat) : Prop where
  seg : ∃ lab n m D f, QJ w2.heap.size W (w2.heap.size + 2) lab eb L n m D sb s x f ∧ f.seen.length = sl ∧ D.count = cnt ∧ n ≤ n0 ∧ m ≤ 300000000
  frm : Frm (fun _ => False) w2 W
theorem JunkAt.open_ (h : JunkAt P w2 W eb L sb x N v rs sd k) (hx : 1 ≤ x ∧ x ≤ 4611686018427387904) (hby : ∀ x, x ∈ sd → 0 ≤ x ∧ x < 256) (R : List Sg.Bytes) (K : Nat) (hs : Sg.scanAll sd [] x = (R, K)) :
    Calls Tryz.prog 36 #[dptr (w2.heap.size + 2), .int .u64 x] W fun e w' => ∃ sb2 p c, e = .returned (.tuple #[segP sb2, .slice p R.length c, .nilIface]) ∧ R.length ≤ c ∧ RecsAt w' p R ∧ RecsRef P w' w2.heap.size v rs ∧ (∃ cnt, OpAt w2 w' eb L sb2 x ⟨nmOf x, x + R.length, K, decide (sd.length = K * 512), false⟩ sd.length cnt 4500000) ∧ Frm (fun _ => False) W w' := by
  obtain ⟨lab, n, m, D, s, f, h1, h2, h3, h4, h5, h6, h7⟩ := h.seg
  have K0 := h1.open_ hx (by rw [h2]; exact hby) R K (by rw [h2]; exact hs)
  rw [h2] at K0
  refine K0.mono ?_
  rintro e w' ⟨sb2, p, c, rfl, k1, k2, k3, k4⟩
  obtain ⟨p', c', e1, hc⟩ := k3.form
  simp only [Value.slice.injEq, true_and] at e1
  obtain ⟨rfl, rfl⟩ := e1
  exact ⟨sb2, p, c, rfl, hc, k3.recsAt, h.all.frm k4, ⟨D.count, ⟨lab, n, m, D, f, k2, by rw [h2], rfl, h6, h7⟩, h.frm.trans k4 (fun _ _ h => h)⟩, k4⟩
section
variable {s : SegS} {sl cnt n0 : Nat}
theorem OpAt.keep (h : OpAt w2 W eb L sb x s sl cnt n0) {W' : World} (hf : Frm (fun _ => False) W W') : OpAt w2 W' eb L sb x s sl cnt n0 := by
  obtain ⟨lab, n, m, D, f, h1, h2⟩ := h.seg
  exact ⟨⟨lab, n, m, D, f, h1.frm hf, h2⟩, h.frm.trans hf (fun _ _ h => h)⟩
theorem OpAt.few (h : OpAt w2 W eb L sb x s sl cnt n0) : cnt ≤ n0 := by
  obtain ⟨lab, n, m, D, f, h1, h2, h3, h4, h5⟩ := h.seg
  have := h1.seg.live.sz.count
  omega
theorem OpAt.next (h : OpAt w2 W eb L sb x s sl cnt n0) : Calls Tryz.prog 42 #[segP sb] W fun e w' => e = .returned (.int .u64 s.next) ∧ w' = W := by
  obtain ⟨lab, n, m, D, f, h1, h2⟩ := h.seg
  exact next_calls h1.seg
theorem OpAt.blocks (h : OpAt w2 W eb L sb x s sl cnt n0) : Calls Tryz.prog 38 #[segP sb] W fun e w' => e = .returned (.int .i64 s.blocks) ∧ w' = W := by
  obtain ⟨lab, n, m, D, f, h1, h2⟩ := h.seg
  exact blocks_calls h1.seg
theorem OpAt.whole (h : OpAt w2 W eb L sb x s sl cnt n0) : Calls Tryz.prog 43 #[segP sb] W fun e w' => e = .returned (.bool s.whole) ∧ w' = W := by
  obtain ⟨lab, n, m, D, f, h1, h2⟩ := h.seg
  exact whole_calls h1.seg
theorem OpAt.ops (h : OpAt w2 W eb L sb x s sl cnt n0) : Calls Tryz.prog 28 #[dptr (w2.heap.size + 2)] W fun e w' => e = .returned (.int .i64 cnt) ∧ w' = W := by
  obtain ⟨lab, n, m, D, f, h1, h2, h3, h4⟩ := h.seg
  have := h1.ops
  rwa [h3] at this
theorem OpAt.err (h : OpAt w2 W eb L sb x s sl cnt n0) (c : Err) (hc : c ∈ [1, 2, 3, 4, 5, 6, 7, 8, 9, 13, 15]) : W.cell? ⟨gOf c, 0, none⟩ = some (errV eb c) := by
  obtain ⟨lab, n, m, D, f, h1, h2⟩ := h.seg
  exact h1.seg.err c hc
theorem OpAt.tab (h : OpAt w2 W eb L sb x s sl cnt n0) : Env w2.heap.size W L := by
  obtain ⟨lab, n, m, D, f, h1, h2⟩ := h.seg
  exact h1.seg.env
theorem OpAt.cut (h : OpAt w2 W eb L sb x s sl cnt n0) (hs : s.sick = false) (hw : s.whole = false) (hk : s.blocks * 512 ≤ sl) (hn0 : n0 ≤ 4500100) :
    Calls Tryz.prog 44 #[segP sb] W fun e w' => e = .returned .nilIface ∧ OpAt w2 w' eb L sb x { s with whole := true } (s.blocks * 512) (cnt + 1) (n0 + 1) := by
  obtain ⟨lab, n, m, D, f, h1, h2, h3, h4, h5⟩ := h.seg
  refine (h1.cut hs hw (by rw [h2]; exact hk) (.nine (by omega) (by omega))).mono ?_
  rintro e w' ⟨rfl, D', hc', lab', k1, k2, k3⟩
  exact ⟨rfl, ⟨lab', _, _, D', _, k1, Sg.cut_seen (by rw [h2]; exact hk), by omega, by omega, by omega⟩, h.frm.trans k2 (fun k hk hF2 => by have := h1.own k hF2; omega)⟩
theorem OpAt.cv (h : OpAt w2 W eb L sb x s sl cnt n0) (y : Int) : (convert 40 40 (.slice (some ⟨W.heap.size, 0, none⟩) 1 1)).run Tryz.prog (W.alloc (.cells #[.int .u8 y] 5)) = .ok (.slice (some ⟨W.heap.size, 0, none⟩) 1 1) ((W.alloc (.cells #[.int .u8 y] 5)).freeze ⟨W.heap.size, 1, none⟩ 1) := conv_new W y
theorem neq_self9 (a : Addr) (W : World) : (binOp .neq 32 (.iface 320 (.pointer (some a))) (.iface 320 (.pointer (some a)))).run Tryz.prog W = .ok (.bool false) W := by
  obtain ⟨i, hi, hcmp⟩ := Option.map_eq_some_iff.1 Go.Proofs.YtpckkdjdjkjapaaGreatDoor.Ei.isComp
  obtain ⟨j, hj, hjs⟩ := Option.map_eq_some_iff.1 Go.Proofs.YtpckkdjdjkjapaaGreatDoor.Ei.isSize
  simp only [binOp]
  simp [Op.equal, Op.maxDepth, run_equalIn_iface_ptr_same (P := Tryz.prog) W 9998 a Tryz.underlying32 Tryz.underlying320 hi hcmp hj]
/-- One record more, of one byte. -/
theorem OpAt.append1 (h : OpAt w2 W eb L sb x s sl cnt n0) (hs : s.sick = false) (hw : s.whole = true) (hk : s.blocks * 512 ≤ sl) (hn0 : n0 ≤ 4500100) (A : Option Addr) (c : Nat) (hr : RecsAt W A [[120]]) (hc : 1 ≤ c) (hn : 1 ≤ s.next ∧ s.next ≤ 4611686018427387904) :
    Calls Tryz.prog 35 #[segP sb, .slice A 1 c] W fun e w' => e = .returned .nilIface ∧ (Calls Tryz.prog 42 #[segP sb] w' fun e w'' => e = .returned (.int .u64 ((s.next + 1 : Nat) : Int)) ∧ w'' = w') ∧ Frm (fun _ => False) w2 w' := by
  obtain ⟨lab, n, m, D, f, h1, h2, h3, h4, h5⟩ := h.seg
  have hp : (packE s.next [[120]]).1 = 0 := by
    unfold packE
    rw [if_neg (by simp), if_neg (by have : Sg.numbers s.next 1 := ⟨hn.1, Nat.le_refl _, by omega⟩; simpa using this), if_neg (by decide)]
  have hsz := Sg.packE_size s.next [[120]]
  have hl : f.seen.length ≤ m := h1.seg.live.sz.len f (by rw [h1.one.files]; exact List.mem_singleton_self _)
  have hsz2 : (packE s.next [[120]]).2.length ≤ 512 := hsz
  have K := h1.append hs hw A c [[120]] hr hc (by decide) (by decide) (by simp) hp (.nine (by omega) (by omega)) (by omega)
  refine K.mono ?_
  rintro e w' ⟨rfl, D', hc', lab', k1, k2, k3⟩
  refine ⟨rfl, ?_, h.frm.trans k2 (fun k hk hF2 => by have := h1.own k hF2; omega)⟩
  have := next_calls k1.seg
  exact this
theorem OpAt.read (h : OpAt w2 W eb L sb x s sl cnt n0) : Calls Tryz.prog 45 #[dptr (w2.heap.size + 2), .string (nmOf x)] W fun e w' => ∃ p c q cq, e = .returned (.tuple #[.slice p sl c, .slice q 0 cq, .nilIface]) ∧ Frm (fun _ => False) W w' := by
  obtain ⟨lab, n, m, D, f, h1, h2, h3, h4, h5⟩ := h.seg
  have := h1.read
  rwa [h2] at this
end
end
end Go.Proofs.YtpckkdjdjkjapaaGreatDoor.Dw

/- SegmentSafe: while the groups are handed in, whatever fails. -/
namespace Go.Proofs.YtpckkdjdjkjapaaGreatDoor.Dw
open Go.RowKit Go.ChangeMaps Go.Proofs.YtpckkdjdjkjapaaGreatDoor.Mp Go.Proofs.YtpckkdjdjkjapaaGreatDoor.Dm Go.Proofs.YtpckkdjdjkjapaaGreatDoor.Da Go.Shelf
open Go.Proofs.YtpckkdjdjkjapaaGreatDoor.Sg (SegS packE Over Group heavyN Safe1 Safe2)
open Go.Proofs.YtpckkdjdjkjapaaGreatDoorW.PrintWords (ReadsInt string_of_reads)
set_option linter.unusedVariables false
set_option linter.unusedSimpArgs false
set_option linter.unusedSectionVars false
theorem DFit.ten {n m : Nat} (hn : n ≤ 9000000) (hm : m ≤ 600000000) : DFit n m :=
  ⟨by omega, by omega, Nat.le_trans (Nat.mul_le_mul hn (show (m + 511) / 512 ≤ 1171876 by omega)) (by decide)⟩
/-- At the head of the loop, and in a round; sf: how many records are safe. -/
structure SafeAt (w2 W : World) (eb : Nat → Addr) (L : List Err) (sb x : Nat) (gs0 : List Group) (i q : Nat) (v : Value) (gs : List (List Sg.Bytes)) (rs : List Sg.Bytes) (sf : Nat) : Prop where
  seg : ∃ lab n m D s f k, SegL w2.heap.size W (w2.heap.size + 2) lab eb L n m D sb s ∧ One (nmOf x) f D ∧ s.nm = nmOf x ∧ Safe1 s x gs f k ∧ (∀ g, v.ownBlock = some g → g ≠ sb ∧ ¬ Ft lab g) ∧ n ≤ q ∧ m ≤ 512 * gs.flatten.length ∧ sf = (gs.take k).flatten.length
  all : RecsRef (fun k => k < w2.heap.size) W w2.heap.size v rs
  frm : Frm (fun _ => False) w2 W
  cnt : 8 * gs.flatten.length + i ≤ Sg.groupSum (gs0.take i)
  byt : ∀ r, r ∈ gs.flatten → ∀ x, x ∈ r → 0 ≤ x ∧ x < 256
/-- Behind the loop. -/
structure EndAt (w2 W : World) (eb : Nat → Addr) (L : List Err) (x : Nat) (v : Value) (gs : List (List Sg.Bytes)) (rs : List Sg.Bytes) (sf : Nat) : Prop where
  dsk : ∃ lab n m D f k, Live w2.heap.size W (w2.heap.size + 2) lab eb L n m D ∧ Env w2.heap.size W L ∧ One (nmOf x) f D ∧ Safe2 x gs f k ∧ (∀ g, v.ownBlock = some g → ¬ Ft lab g) ∧ m ≤ 300000000 ∧ sf = (gs.take k).flatten.length
  all : RecsRef (fun k => k < w2.heap.size) W w2.heap.size v rs
  frm : Frm (fun _ => False) w2 W
  few : gs.flatten.length ≤ 4194304
  byt : ∀ r, r ∈ gs.flatten → ∀ x, x ∈ r → 0 ≤ x ∧ x < 256
section
variable {w2 W : World} {eb : Nat → Addr} {L : List Err} {sb x : Nat} {gs0 : List Group} {i q : Nat} {v : Value} {gs : List (List Sg.Bytes)} {rs : List Sg.Bytes} {sf : Nat}
theorem SafeAt.step (h : SafeAt w2 W eb L sb x gs0 i q v gs rs sf) (hi : i < gs0.length) : SafeAt w2 W eb L sb x gs0 (i + 1) q v gs rs sf :=
  ⟨h.seg, h.all, h.frm, by rw [groupSum_succ hi]; have := h.cnt; omega, h.byt⟩
theorem SafeAt.more (h : SafeAt w2 W eb L sb x gs0 i q v gs rs sf) {q' : Nat} (hq : q ≤ q') : SafeAt w2 W eb L sb x gs0 i q' v gs rs sf := by
  obtain ⟨lab, n, m, D, s, f, k, h1, h2, h3, h4, h5, h6, h7⟩ := h.seg
  exact ⟨⟨lab, n, m, D, s, f, k, h1, h2, h3, h4, h5, by omega, h7⟩, h.all, h.frm, h.cnt, h.byt⟩
theorem SafeAt.keep (h : SafeAt w2 W eb L sb x gs0 i q v gs rs sf) {W' : World} (hf : Frm (fun _ => False) W W') : SafeAt w2 W' eb L sb x gs0 i q v gs rs sf := by
  obtain ⟨lab, n, m, D, s, f, k, h1, h2⟩ := h.seg
  exact ⟨⟨lab, n, m, D, s, f, k, h1.frm hf, h2⟩, h.all.frm hf, h.frm.trans hf (fun _ _ h => h), h.cnt, h.byt⟩
theorem SafeAt.grow (h : SafeAt w2 W eb L sb x gs0 i q v gs rs sf) {W' : World} {v' : Value} {rs' : List Sg.Bytes} (hr : RecsRef (fun k => k < w2.heap.size) W' w2.heap.size v' rs') (hg : W.grownBy W' v.ownBlock) (hn : v'.ownBlock = v.ownBlock ∨ ∀ g, v'.ownBlock = some g → W.heap.size ≤ g) : SafeAt w2 W' eb L sb x gs0 i q v' gs rs' sf := by
  obtain ⟨lab, n, m, D, s, f, k, h1, h2, h3, h4, h5, h6⟩ := h.seg
  have hbase : ∀ k, v.ownBlock = some k → w2.heap.size ≤ k := fun k hk => by
    obtain ⟨us, k1, _⟩ := h.all
    exact (own_low k1 hk).1
  refine ⟨⟨lab, n, m, D, s, f, k, h1.off (grown_frm hg) (fun k hk => ⟨(h5 k hk).1, (h5 k hk).2, hbase k hk⟩), h2, h3, h4, fun g e => ?_, h6⟩, hr, h.frm.trans (grown_frm hg) (fun k hk e => by have := hbase k e; omega), h.cnt, h.byt⟩
  rcases hn with hn | hn
  · exact h5 g (by rw [← hn]; exact e)
  · have h7 := hn g e
    refine ⟨fun e => by have := h1.lt; omega, ?_⟩
    unfold Ft
    rw [h1.live.low_of h7]
    simp
theorem EndAt.grow (h : EndAt w2 W eb L x v gs rs sf) {W' : World} {v' : Value} {rs' : List Sg.Bytes} (hr : RecsRef (fun k => k < w2.heap.size) W' w2.heap.size v' rs') (hg : W.grownBy W' v.ownBlock) (hn : v'.ownBlock = v.ownBlock ∨ ∀ g, v'.ownBlock = some g → W.heap.size ≤ g) : EndAt w2 W' eb L x v' gs rs' sf := by
  obtain ⟨lab, n, m, D, f, k, h1, h2, h3, h4, h5, h6⟩ := h.dsk
  have hbase : ∀ k, v.ownBlock = some k → w2.heap.size ≤ k := fun k hk => by
    obtain ⟨us, k1, _⟩ := h.all
    exact (own_low k1 hk).1
  refine ⟨⟨lab, n, m, D, f, k, h1.frmF (grown_frm hg) (fun k hk => h5 k hk) (fun k hk => hbase k hk), h2.frm (grown_frm hg) (fun k hk => hbase k hk), h3, h4, fun g e => ?_, h6⟩, hr, h.frm.trans (grown_frm hg) (fun k hk e => by have := hbase k e; omega), h.few, h.byt⟩
  rcases hn with hn | hn
  · exact h5 g (by rw [← hn]; exact e)
  · have h7 := hn g e
    unfold Ft
    rw [h1.low_of h7]
    simp
theorem SafeAt.few (h : SafeAt w2 W eb L sb x gs0 i q v gs rs sf) (hv : heavyN gs0 ≤ 4194304) : 8 * gs.flatten.length + i ≤ 4194304 := by
  have h1 := h.cnt
  have h2 := Sg.heavy_sum hv
  have h3 := Sg.groupSum_take gs0 i
  omega
theorem SafeAt.end_ (h : SafeAt w2 W eb L sb x gs0 i q v gs rs sf) (hv : heavyN gs0 ≤ 4194304) : EndAt w2 W eb L x v gs rs sf := by
  have hfew := h.few hv
  obtain ⟨lab, n, m, D, s, f, k, h1, h2, h3, h4, h5, h6, h7, h8⟩ := h.seg
  exact ⟨⟨lab, n, m, D, f, k, h1.live, h1.env, h2, h4.end_, fun g e => (h5 g e).2, by omega, h8⟩, h.all, h.frm, by omega, h.byt⟩
theorem SafeAt.err (h : SafeAt w2 W eb L sb x gs0 i q v gs rs sf) (c : Err) (hc : c ∈ [1, 2, 3, 4, 5, 6, 7, 8, 9, 13, 15]) : W.cell? ⟨gOf c, 0, none⟩ = some (errV eb c) := by
  obtain ⟨lab, n, m, D, s, f, k, h1, h2⟩ := h.seg
  exact h1.err c hc
theorem SafeAt.eql (h : SafeAt w2 W eb L sb x gs0 i q v gs rs sf) {c d : Err} (hc : c ∈ [1, 2, 3, 4, 5, 6, 7, 8, 9, 13, 15]) (hd : d ∈ [1, 2, 3, 4, 5, 6, 7, 8, 9, 13, 15]) :
    (binOp .eql 32 (.iface 320 (.pointer (some (eb c)))) (.iface 320 (.pointer (some (eb d))))).run Tryz.prog W = .ok (.bool (decide (c = d))) W := by
  obtain ⟨lab, n, m, D, s, f, k, h1, h2⟩ := h.seg
  exact h1.live.ers.eql (h1.env.sub c hc) (h1.env.sub d hd)
theorem EndAt.err (h : EndAt w2 W eb L x v gs rs sf) (c : Err) (hc : c ∈ [1, 2, 3, 4, 5, 6, 7, 8, 9, 13, 15]) : W.cell? ⟨gOf c, 0, none⟩ = some (errV eb c) := by
  obtain ⟨lab, n, m, D, f, k, h1, h2, h3⟩ := h.dsk
  exact h1.ers.var c (h2.sub c hc)
theorem EndAt.eql (h : EndAt w2 W eb L x v gs rs sf) {c d : Err} (hc : c ∈ [1, 2, 3, 4, 5, 6, 7, 8, 9, 13, 15]) (hd : d ∈ [1, 2, 3, 4, 5, 6, 7, 8, 9, 13, 15]) :
    (binOp .eql 32 (.iface 320 (.pointer (some (eb c)))) (.iface 320 (.pointer (some (eb d))))).run Tryz.prog W = .ok (.bool (decide (c = d))) W := by
  obtain ⟨lab, n, m, D, f, k, h1, h2, h3⟩ := h.dsk
  exact h1.ers.eql (h2.sub c hc) (h2.sub d hd)
theorem SafeAt.next (h : SafeAt w2 W eb L sb x gs0 i q v gs rs sf) : Calls Tryz.prog 42 #[segP sb] W fun e w' => e = .returned (.int .u64 ((x + gs.flatten.length : Nat) : Int)) ∧ w' = W := by
  obtain ⟨lab, n, m, D, s, f, k, h1, h2, h3, h4, h5⟩ := h.seg
  have := next_calls h1
  rwa [h4.over.next] at this
theorem SafeAt.idle (h : SafeAt w2 W eb L sb x gs0 i q v gs rs sf) (A : Option Addr) (c : Nat) : Calls Tryz.prog 35 #[segP sb, .slice A 0 c] W fun e w' => e = .returned .nilIface ∧ w' = W := by
  obtain ⟨lab, n, m, D, s, f, k, h1, h2, h3, h4, h5⟩ := h.seg
  exact append_none h1 h4.over.well h4.over.whole A c
/-- Records that are refused. -/
theorem SafeAt.refuse (h : SafeAt w2 W eb L sb x gs0 i q v gs rs sf) (A : Option Addr) (c : Nat) (ms : List Sg.Bytes) (hr : RecsAt W A ms) (hc : ms.length ≤ c) (hl : ms.length ≤ 4194304) (hb : ∀ r, r ∈ ms → ∀ x, x ∈ r → 0 ≤ x ∧ x < 256) (h0 : ms ≠ []) (hp : (packE (x + gs.flatten.length) ms).1 ≠ 0) :
    Calls Tryz.prog 35 #[segP sb, .slice A ms.length c] W fun e w' => e = .returned (errV eb (packE (x + gs.flatten.length) ms).1) ∧ SafeAt w2 w' eb L sb x gs0 i q v gs rs sf := by
  obtain ⟨lab, n, m, D, s, f, k, h1, h2, h3, h4, h5⟩ := h.seg
  rw [← h4.over.next] at hp ⊢
  refine (append_refuse h1 h4.over.well h4.over.whole A c ms hr hc (by omega) hb h0 hp).mono ?_
  rintro e w' ⟨rfl, hf⟩
  exact ⟨rfl, h.keep hf⟩
/-- Records that Pack takes: they go, or the disk fails. -/
theorem SafeAt.app (h : SafeAt w2 W eb L sb x gs0 i q v gs rs sf) (hv : heavyN gs0 ≤ 4194304) (hx : 1 ≤ x) (hi : i < gs0.length) (hq : q ≤ 8999990) (A : Option Addr) (c : Nat) (ms : List Sg.Bytes) (hms : ms = gs0[i].1) (hr : RecsAt W A ms) (hc : ms.length ≤ c) (hb : ∀ r, r ∈ ms → ∀ x, x ∈ r → 0 ≤ x ∧ x < 256) (h0 : ms ≠ []) (hp : (packE (x + gs.flatten.length) ms).1 = 0) :
    (Calls Tryz.prog 35 #[segP sb, .slice A ms.length c] W fun e w' => e = .returned .nilIface ∧ ∃ gs', gs'.flatten = gs.flatten ++ ms ∧ SafeAt w2 w' eb L sb x gs0 (i + 1) (q + 1) v gs' rs sf) ∨
    ∃ r, (r = 6 ∨ r = 7) ∧ Calls Tryz.prog 35 #[segP sb, .slice A ms.length c] W fun e w' => e = .returned (errV eb r) ∧ ∃ gs', gs'.flatten = gs.flatten ++ ms ∧ EndAt w2 w' eb L x v gs' rs sf := by
  have hfew := h.few hv
  obtain ⟨lab, n, m, D, s, f, k, h1, h2, h3, h4, h5, h6, h7, h8⟩ := h.seg
  have hgi : Sg.groupSum (gs0.take (i + 1)) ≤ 4194304 := Nat.le_trans (Sg.groupSum_take gs0 (i + 1)) (Sg.heavy_sum hv)
  rw [groupSum_succ hi, ← hms] at hgi
  have hrl := Sg.recSum_len ms
  have hcn := h.cnt
  rw [← h4.over.next] at hp
  obtain ⟨p1, p2, p3⟩ := Sg.packE_ok h0 hp
  have hsz := Sg.packE_size s.next ms
  have hfl : (gs ++ Sg.cutRecs ms.length ms).flatten = gs.flatten ++ ms := by
    rw [List.flatten_append, Sg.cutRecs_flatten ms.length ms (Nat.le_refl _) p2]
  have hbl : s.blocks * 512 ≤ m := by
    have k1 := h1.live.sz.len f (by rw [h2.files]; exact List.mem_singleton_self _)
    rw [h4.over.seen, Sg.lay_length Sg.crc gs x h4.over.good] at k1
    rw [h4.over.blocks]
    omega
  have hsf : sf = ((gs ++ Sg.cutRecs ms.length ms).take k).flatten.length := by rw [h8, List.take_append_of_le_length h4.le]
  have K := append_goes h1 h4.over.well h4.over.whole A c ms hr hc (by omega) hb h0 hp (.ten (by omega) (by omega)) (by omega)
  rw [h3] at K
  obtain ⟨t, o1, o2, o3⟩ := h2.append (packE s.next ms).2
  have own : ∀ k, (k = sb ∨ Ft lab k) → w2.heap.size ≤ k := fun k hk => hk.elim (fun e => e ▸ h1.low) (h1.live.base k)
  have byt : ∀ r, r ∈ (gs ++ Sg.cutRecs ms.length ms).flatten → ∀ x, x ∈ r → 0 ≤ x ∧ x < 256 := by
    rw [hfl]
    intro r hr
    rcases List.mem_append.1 hr with hr | hr
    · exact h.byt r hr
    · exact hb r hr
  have keep : ∀ {w' : World} {lab' : Nat → Option Lb}, Frm (fun k => k = sb ∨ Ft lab k) W w' → (∀ k, k < W.heap.size → Ft lab' k → Ft lab k) → RecsRef (fun k => k < w2.heap.size) w' w2.heap.size v rs ∧ Frm (fun _ => False) w2 w' ∧ (∀ g, v.ownBlock = some g → g ≠ sb ∧ ¬ Ft lab' g) := fun hk2 hk3 => by
    refine ⟨h.all.keep hk2 (fun k hk hF2 => by have := own k hF2; omega) (fun g e hk => ?_), h.frm.trans hk2 (fun k hk hF2 => by have := own k hF2; omega), fun g e => ?_⟩
    · obtain ⟨j1, j2⟩ := h5 g e
      exact hk.elim j1 j2
    · obtain ⟨j1, j2⟩ := h5 g e
      obtain ⟨us, j3, _⟩ := h.all
      exact ⟨j1, fun hk => j2 (hk3 g (own_low j3 e).2 hk)⟩
  by_cases hr0 : (D.append (nmOf x) (packE s.next ms).2).1 = 0
  · left
    obtain ⟨o4, o5⟩ := o2 hr0
    rw [o4] at o1
    rw [hr0, errV_zero, if_pos rfl] at K
    refine K.mono ?_
    rintro e w' ⟨rfl, lab', k1, k2, k3⟩
    obtain ⟨j1, j2, j3⟩ := keep k2 k3
    refine ⟨rfl, _, hfl, ⟨lab', _, _, _, _, _, k, k1, o1, ?_, h4.more h0 hp hx, j3, by omega, by rw [hfl, List.length_append]; omega, hsf⟩, j1, j2, ?_, byt⟩
    · exact h3
    · rw [hfl, List.length_append, groupSum_succ hi, ← hms]
      omega
  · right
    refine ⟨_, o3.resolve_left hr0, ?_⟩
    refine K.mono ?_
    rintro e w' ⟨rfl, lab', k1, k2, k3⟩
    obtain ⟨j1, j2, j3⟩ := keep k2 k3
    exact ⟨rfl, _, hfl, ⟨lab', _, _, _, _, k, k1.live, k1.env, o1, h4.part h0 hp hx t, fun g e => (j3 g e).2, by omega, hsf⟩, j1, j2, by rw [hfl, List.length_append]; omega, byt⟩
/-- What is there is made safe, or the disk fails. -/
theorem SafeAt.syncs (h : SafeAt w2 W eb L sb x gs0 i q v gs rs sf) (hv : heavyN gs0 ≤ 4194304) (hq : q ≤ 8999990) :
    (Calls Tryz.prog 47 #[segP sb] W fun e w' => e = .returned .nilIface ∧ SafeAt w2 w' eb L sb x gs0 i (q + 1) v gs rs gs.flatten.length) ∨
    ∃ r, (r = 6 ∨ r = 7) ∧ Calls Tryz.prog 47 #[segP sb] W fun e w' => e = .returned (errV eb r) ∧ EndAt w2 w' eb L x v gs rs sf := by
  have hfew := h.few hv
  obtain ⟨lab, n, m, D, s, f, k, h1, h2, h3, h4, h5, h6, h7, h8⟩ := h.seg
  have K := ssync_calls h1 h4.over.well (.ten (by omega) (by omega))
  rw [h3] at K
  have own : ∀ k, (k = sb ∨ Ft lab k) → w2.heap.size ≤ k := fun k hk => hk.elim (fun e => e ▸ h1.low) (h1.live.base k)
  have keep : ∀ {w' : World} {lab' : Nat → Option Lb}, Frm (fun k => k = sb ∨ Ft lab k) W w' → (∀ k, k < W.heap.size → Ft lab' k → Ft lab k) → RecsRef (fun k => k < w2.heap.size) w' w2.heap.size v rs ∧ Frm (fun _ => False) w2 w' ∧ (∀ g, v.ownBlock = some g → g ≠ sb ∧ ¬ Ft lab' g) := fun hk2 hk3 => by
    refine ⟨h.all.keep hk2 (fun k hk hF2 => by have := own k hF2; omega) (fun g e hk => ?_), h.frm.trans hk2 (fun k hk hF2 => by have := own k hF2; omega), fun g e => ?_⟩
    · obtain ⟨j1, j2⟩ := h5 g e
      exact hk.elim j1 j2
    · obtain ⟨j1, j2⟩ := h5 g e
      obtain ⟨us, j3, _⟩ := h.all
      exact ⟨j1, fun hk => j2 (hk3 g (own_low j3 e).2 hk)⟩
  rcases h2.sync with ⟨o1, o2, o3⟩ | ⟨o1, o2⟩
  · left
    have e1 : s.met 0 = s := by
      unfold SegS.met
      have := h4.over.well
      cases s
      simp_all
    rw [o1, errV_zero, e1] at K
    refine K.mono ?_
    rintro e w' ⟨rfl, lab', k1, k2, k3⟩
    obtain ⟨j1, j2, j3⟩ := keep k2 k3
    exact ⟨rfl, ⟨lab', _, _, _, _, _, gs.length, k1, o2, h3, h4.sync, j3, by omega, h7, by rw [List.take_length]⟩, j1, j2, h.cnt, h.byt⟩
  · right
    refine ⟨_, o1, ?_⟩
    refine K.mono ?_
    rintro e w' ⟨rfl, lab', k1, k2, k3⟩
    obtain ⟨j1, j2, j3⟩ := keep k2 k3
    exact ⟨rfl, ⟨lab', _, _, _, _, k, k1.live, k1.env, o2, h4.end_, fun g e => (j3 g e).2, by omega, h8⟩, j1, j2, by omega, h.byt⟩
end
end Go.Proofs.YtpckkdjdjkjapaaGreatDoor.Dw

/- SegmentSafe: behind a loss of power. -/
namespace Go.Proofs.YtpckkdjdjkjapaaGreatDoor.Dw
open Go.RowKit Go.ChangeMaps Go.Proofs.YtpckkdjdjkjapaaGreatDoor.Mp Go.Proofs.YtpckkdjdjkjapaaGreatDoor.Dm Go.Proofs.YtpckkdjdjkjapaaGreatDoor.Da Go.Shelf
open Go.Proofs.YtpckkdjdjkjapaaGreatDoor.Sg (SegS packE Over Group heavyN Safe1 Safe2)
open Go.Proofs.YtpckkdjdjkjapaaGreatDoorW.PrintWords (ReadsInt string_of_reads)
set_option linter.unusedVariables false
set_option linter.unusedSimpArgs false
set_option linter.unusedSectionVars false
theorem numbers_len9 (b : Nat → Bool) (m : Nat) : (Dm.numbers b m).length ≤ m := by
  unfold Dm.numbers
  rw [List.length_map]
  exact Nat.le_trans (List.length_filter_le _ _) (by simp)
theorem RecsRef.isNil {P : Nat → Prop} {w : World} {base : Nat} {n c : Nat} {rs : List Sg.Bytes} (h : RecsRef P w base (.slice none n c) rs) : n = 0 ∧ c = 0 := by
  obtain ⟨us, h1, _⟩ := h
  rcases h1.2 with ⟨hv, h0⟩ | ⟨g, cap, cur, hv, _⟩
  · simp only [Value.slice.injEq, true_and] at hv
    exact hv
  · simp only [Value.slice.injEq] at hv
    exact absurd hv.1 (by simp)
/-- What Open finds of a file, against what was handed in. -/
def Found (x : Nat) (gs : List (List Sg.Bytes)) (sf : Nat) (data bad : List Int) (l : List Sg.Bytes) (n : Nat) : Prop :=
  Sg.scanAll data bad x = (l, n) ∧ l = gs.flatten.take l.length ∧ sf ≤ l.length ∧ l.length ≤ gs.flatten.length
/-- An image that the disk left. -/
structure LeftAt (w2 W : World) (eb : Nat → Addr) (L : List Err) (x : Nat) (v : Value) (gs : List (List Sg.Bytes)) (rs : List Sg.Bytes) (sf : Nat) (iv : Value) : Prop where
  img : ∃ P l n, ImgRd W iv [P] ∧ Dm.Img [P] ∧ P.name = nmOf x ∧ P.data.length ≤ 300000000 ∧ P.bad.length ≤ 300000000 ∧ Found x gs sf P.data P.bad l n
  ers : ErrsAt w2.heap.size W eb L
  env : Env w2.heap.size W L
  all : RecsRef (fun k => k < w2.heap.size) W w2.heap.size v rs
  frm : Frm (fun _ => False) w2 W
/-- A disk loaded of it. -/
structure BackAt (w2 W : World) (eb : Nat → Addr) (L : List Err) (x : Nat) (v : Value) (gs : List (List Sg.Bytes)) (rs : List Sg.Bytes) (sf : Nat) (b : Nat) : Prop where
  dsk : ∃ lab n m D data bad l k, Live w2.heap.size W b lab eb L n m D ∧ D.read (nmOf x) = (0, data, bad) ∧ data.length ≤ 300000000 ∧ bad.length ≤ 300000000 ∧ (∀ y, y ∈ data → 0 ≤ y ∧ y < 256) ∧ Found x gs sf data bad l k
  env : Env w2.heap.size W L
  all : RecsRef (fun k => k < w2.heap.size) W w2.heap.size v rs
  frm : Frm (fun _ => False) w2 W
section
variable {w2 W : World} {eb : Nat → Addr} {L : List Err} {x : Nat} {v : Value} {gs : List (List Sg.Bytes)} {rs : List Sg.Bytes} {sf : Nat}
theorem EndAt.crash (h : EndAt w2 W eb L x v gs rs sf) (fs : List Int) (k : Int) (p : Option Addr) (c : Nat) (hfs : ∀ j (hj : j < fs.length), ∃ ad, p = some ad ∧ W.cell? (ad.add j) = some (.int .i64 fs[j])) (hfl : fs.length ≤ 4611686018427387904) :
    Calls Tryz.prog 16 #[dptr (w2.heap.size + 2), .agg #[.slice p fs.length c, .int .i64 k]] W fun e w' => ∃ iv, e = .returned iv ∧ LeftAt w2 w' eb L x v gs rs sf iv := by
  obtain ⟨lab, n, m, D, f, kk, h1, h2, h3, h4, h5, h6, h7⟩ := h.dsk
  have hi := crash_img h1.inv fs k
  have hmem : f ∈ D.files := by rw [h3.files]; exact List.mem_singleton_self _
  have hln := h1.sz.len f hmem
  refine (h1.crash fs k p c hfs hfl).mono ?_
  rintro e w' ⟨iv, rfl, k1, k2⟩
  rw [h3.crash fs k] at k1 hi
  have hlf := (fated_ok (h1.inv.files f hmem) (fatesFrom fs 0 (waitList f).length)).2
  obtain ⟨l, nn, s1, s2, s3, s4⟩ := h4.found (fatesFrom fs 0 (waitList f).length)
  refine ⟨iv, rfl, ⟨⟨_, l, nn, k1.rd, hi, rfl, Nat.le_trans hlf (Nat.le_trans hln h6), ?_, s1, s2, by rw [h7]; exact s3, s4⟩, h1.ers.frm k2 (fun _ h => h.elim), h2.frm k2 (fun _ h => h.elim), h.all.frm k2, h.frm.trans k2 (fun _ _ h => h)⟩⟩
  refine Nat.le_trans (numbers_len9 _ _) ?_
  unfold sectors
  omega
theorem LeftAt.load {iv : Value} (h : LeftAt w2 W eb L x v gs rs sf iv) (h10 : 10 ∈ L) :
    Calls Tryz.prog 12 #[iv] W fun e w' => ∃ b, e = .returned (.tuple #[dptr b, .nilIface]) ∧ BackAt w2 w' eb L x v gs rs sf b := by
  obtain ⟨P, l, n, h1, h2, h3, h4, h5, h6⟩ := h.img
  refine (load_live h.ers h.frm.size h10 iv [P] h1 (n := 1) (m := 300000000) (by simp) (fun p hp => by rw [List.mem_singleton.1 hp]; exact h4) (.ten (by decide) (by decide)) (fun p hp => h2.bytes p hp) (fun p hp => by rw [List.mem_singleton.1 hp, h3, nmOf_size]; decide)).mono ?_
  rintro e w' ⟨hf, ⟨hg, b, lab, rfl, k1, k2⟩ | ⟨hg, _⟩⟩
  · exact ⟨b, rfl, ⟨⟨lab, _, _, _, P.data, P.bad, l, n, k1, by rw [← h3]; exact one_load h2, h4, h5, fun y hy => h2.bytes P (List.mem_singleton_self _) y hy, h6⟩, h.env.frm hf (fun _ h => h.elim), h.all.frm hf, h.frm.trans hf (fun _ _ h => h)⟩⟩
  · exact absurd h2.good hg
theorem BackAt.open_ {b : Nat} (h : BackAt w2 W eb L x v gs rs sf b) (hx : 1 ≤ x ∧ x ≤ 4611686018427387904) :
    Calls Tryz.prog 36 #[dptr b, .int .u64 x] W fun e w' => ∃ t p c l, e = .returned (.tuple #[segP t, .slice p (List.length l) c, .nilIface]) ∧ l.length ≤ c ∧ RecsAt w' p l ∧ RecsRef (fun k => k < w2.heap.size) w' w2.heap.size v rs ∧ l = gs.flatten.take l.length ∧ sf ≤ l.length ∧ l.length ≤ gs.flatten.length ∧
      (∀ W', Frm (fun _ => False) w' W' → Calls Tryz.prog 42 #[segP t] W' fun e w'' => e = .returned (.int .u64 ((x + l.length : Nat) : Int)) ∧ w'' = W') ∧ Frm (fun _ => False) w2 w' := by
  obtain ⟨lab, n, m, D, data, bad, l, k, h1, h2, h3, h4, h5, s1, s2, s3, s4⟩ := h.dsk
  have K := open9_calls h1 h.env x hx data bad h2 h.frm.size (by omega) (by omega) h5
  have hs2 : openS x data bad = ⟨nmOf x, x + l.length, k, decide (data.length = k * 512), false⟩ := by unfold openS; rw [s1]
  rw [hs2, s1] at K
  refine K.mono ?_
  rintro e w' ⟨t, p, c, rfl, k1, k2, k3, k4⟩
  obtain ⟨p', c', e1, hc⟩ := k3.form
  simp only [Value.slice.injEq, true_and] at e1
  obtain ⟨rfl, rfl⟩ := e1
  exact ⟨t, p, c, l, rfl, hc, k3.recsAt, h.all.frm k4, s2, s3, s4, fun W' hW => next_calls (k2.frm hW), h.frm.trans k4 (fun _ _ h => h)⟩
end
theorem _root_.Go.Proofs.YtpckkdjdjkjapaaGreatDoor.Da.ErrsAt.neq {B : Nat} {w : World} {eb : Nat → Addr} {L : List Err} (h : ErrsAt B w eb L) {a b : Err} (h1 : a ∈ L) (h2 : b ∈ L) :
    (binOp .neq 32 (.iface 320 (.pointer (some (eb a)))) (.iface 320 (.pointer (some (eb b))))).run Tryz.prog w = .ok (.bool (!decide (a = b))) w := by
  obtain ⟨i, hi, hcmp⟩ := Option.map_eq_some_iff.1 Go.Proofs.YtpckkdjdjkjapaaGreatDoor.Ei.isComp
  obtain ⟨j, hj, hjs⟩ := Option.map_eq_some_iff.1 Go.Proofs.YtpckkdjdjkjapaaGreatDoor.Ei.isSize
  by_cases e : a = b
  · subst e
    rw [decide_eq_true rfl]
    exact neq_self9 _ _
  · rw [decide_eq_false e]
    obtain ⟨_, _, ha⟩ := h.blk a h1
    obtain ⟨_, _, hb⟩ := h.blk b h2
    simp only [binOp]
    simp [Op.equal, Op.maxDepth, run_equalIn_iface_ptr_other (P := Tryz.prog) w 9998 Tryz.underlying32 Tryz.underlying320 hi hcmp hj (by rw [hjs]; decide) (fun e2 => e (h.inj a b h1 h2 e2)) ha hb]
section
variable {w2 W : World} {eb : Nat → Addr} {L : List Err} {sb x : Nat} {gs0 : List Group} {i q : Nat} {v : Value} {gs : List (List Sg.Bytes)} {rs : List Sg.Bytes} {sf : Nat}
theorem SafeAt.neq (h : SafeAt w2 W eb L sb x gs0 i q v gs rs sf) {c d : Err} (hc : c ∈ [1, 2, 3, 4, 5, 6, 7, 8, 9, 13, 15]) (hd : d ∈ [1, 2, 3, 4, 5, 6, 7, 8, 9, 13, 15]) :
    (binOp .neq 32 (.iface 320 (.pointer (some (eb c)))) (.iface 320 (.pointer (some (eb d))))).run Tryz.prog W = .ok (.bool (!decide (c = d))) W := by
  obtain ⟨lab, n, m, D, s, f, k, h1, h2⟩ := h.seg
  exact h1.live.ers.neq (h1.env.sub c hc) (h1.env.sub d hd)
theorem EndAt.neq (h : EndAt w2 W eb L x v gs rs sf) {c d : Err} (hc : c ∈ [1, 2, 3, 4, 5, 6, 7, 8, 9, 13, 15]) (hd : d ∈ [1, 2, 3, 4, 5, 6, 7, 8, 9, 13, 15]) :
    (binOp .neq 32 (.iface 320 (.pointer (some (eb c)))) (.iface 320 (.pointer (some (eb d))))).run Tryz.prog W = .ok (.bool (!decide (c = d))) W := by
  obtain ⟨lab, n, m, D, f, k, h1, h2, h3⟩ := h.dsk
  exact h1.ers.neq (h2.sub c hc) (h2.sub d hd)
/-- What may fail is armed. -/
theorem SafeAt.arm (h : SafeAt w2 W eb L sb x gs0 i q v gs rs sf) (fv : Value) (fs : List (Int × Int)) (cut : Int) (hv : FailsAt W fv fs) (hn : fs.length ≤ 8796093022208) :
    Calls Tryz.prog 46 #[dptr (w2.heap.size + 2), fv, .int .i64 cut] W fun e w' => e = .returned (.tuple #[]) ∧ SafeAt w2 w' eb L sb x gs0 i q v gs rs sf := by
  obtain ⟨lab, n, m, D, s, f, k, h1, h2, h3, h4, h5, h6⟩ := h.seg
  refine (h1.live.arm fv fs cut hv hn).mono ?_
  rintro e w' ⟨rfl, hn⟩
  obtain ⟨lab', k1, k2, k3⟩ := h1.turn hn
  have own : ∀ k, (k = sb ∨ Ft lab k) → w2.heap.size ≤ k := fun k hk => hk.elim (fun e => e ▸ h1.low) (h1.live.base k)
  refine ⟨rfl, ⟨lab', n, m, _, s, f, k, k1, h2.arm fs cut, h3, h4, fun g e => ?_, h6⟩, h.all.keep k2 (fun k hk hF2 => by have := own k hF2; omega) (fun g e hk => ?_), h.frm.trans k2 (fun k hk hF2 => by have := own k hF2; omega), h.cnt, h.byt⟩
  · obtain ⟨j1, j2⟩ := h5 g e
    obtain ⟨us, j3, _⟩ := h.all
    exact ⟨j1, fun hk => j2 (k3 g (own_low j3 e).2 hk)⟩
  · obtain ⟨j1, j2⟩ := h5 g e
    exact hk.elim j1 j2
theorem safe_start {lab : Nat → Option Lb} {D : Disk} {w' : World} (h : QS w2.heap.size w' (w2.heap.size + 2) lab eb L 2 0 D sb ⟨nmOf x, x, 0, true, false⟩ x [] FileS.new) (hf : Frm (fun _ => False) w2 w') : SafeAt w2 w' eb L sb x gs0 0 2 (.slice none 0 0) [] [] 0 :=
  ⟨⟨lab, 2, 0, D, _, _, 0, h.seg, h.one, rfl, ⟨h.over, Sg.half_new, Nat.le_refl _⟩, fun g e => by simp [Value.ownBlock] at e, Nat.le_refl _, by simp, by simp⟩, RecsRef.nil _ _ _, hf, by simp, fun r hr => by simp at hr⟩
end
end Go.Proofs.YtpckkdjdjkjapaaGreatDoor.Dw
