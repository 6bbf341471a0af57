/- A part of the proof of segmentMemoryUpto_holds: Me1. No condition. -/
import Derived.ArgAppend
import Derived.Test.YtkmmlfphcfcbgaaGreatDoorC27

/- SegmentMemory: the segment at work beside rows that are written over. -/
namespace Go.Proofs.YtkmmlfphcfcbgaaGreatDoor.Dw
open Go.RowKit Go.ChangeMaps Go.Proofs.YtkmmlfphcfcbgaaGreatDoor.Mp Go.Proofs.YtkmmlfphcfcbgaaGreatDoor.Dm Go.Proofs.YtkmmlfphcfcbgaaGreatDoor.Da Go.Shelf
open Go.Proofs.YtkmmlfphcfcbgaaGreatDoor.Sg (SegS packE Over Group heavyN)
open Go.Proofs.YtkmmlfphcfcbgaaGreatDoorW.PrintWords (ReadsInt string_of_reads)
set_option linter.unusedVariables false
set_option linter.unusedSimpArgs false
set_option linter.unusedSectionVars false
/-- A segment at work; nothing of it lies in Z. -/
structure MemAt (Z : Nat → Prop) (w2 W : World) (eb : Nat → Addr) (L : List Err) (sb x : Nat) (fl : List Sg.Bytes) : Prop where
  seg : ∃ lab n m D s gs f, QS w2.heap.size W (w2.heap.size + 2) lab eb L n m D sb s x gs f ∧ (∀ k, (k = sb ∨ Ft lab k) → ¬ Z k) ∧ ((fl = [] → n ≤ 2) ∧ n ≤ 3) ∧ m ≤ 512 * gs.flatten.length ∧ gs.flatten = fl
  byt : ∀ r, r ∈ fl → ∀ x, x ∈ r → 0 ≤ x ∧ x < 256
  frm : Frm (fun _ => False) w2 W
theorem mem_start {w2 : World} {eb : Nat → Addr} {L : List Err} (he : ErrsAt w2.heap.size w2 eb L) (hv : Env w2.heap.size w2 L) (x : Nat) (hx : 1 ≤ x ∧ x ≤ 4611686018427387904) :
    Calls Tryz.prog 13 #[dptr (w2.heap.size + 2), .int .u64 x] (wBorn w2) fun e w' => ∃ sb, e = .returned (.tuple #[.pointer (some ⟨sb, 0, none⟩), .nilIface]) ∧ MemAt (fun k => w'.heap.size ≤ k) w2 w' eb L sb x [] := by
  refine (start_calls he hv x hx).mono ?_
  rintro e w' ⟨sb, rfl, h1, lab, D, h2, h3, h4⟩
  refine ⟨sb, rfl, ⟨lab, 2, 0, D, _, _, _, h2, fun k hk hz => ?_, ⟨fun _ => by omega, by omega⟩, by simp, rfl⟩, fun r hr => by simp at hr, h4⟩
  rcases hk with rfl | hk
  · have := h2.seg.lt; omega
  · unfold Ft at hk
    rw [h2.seg.live.low_of hz] at hk
    simp at hk
section
variable {Z F : Nat → Prop} {w2 W W' : World} {eb : Nat → Addr} {L : List Err} {sb x : Nat} {fl : List Sg.Bytes}
theorem MemAt.low (h : MemAt Z w2 W eb L sb x fl) : w2.heap.size ≤ W.heap.size := h.frm.size
theorem MemAt.off (h : MemAt Z w2 W eb L sb x fl) (hf : Frm F W W') (hF : ∀ k, F k → Z k ∧ w2.heap.size ≤ k) : MemAt Z w2 W' eb L sb x fl := by
  obtain ⟨lab, n, m, D, s, gs, f, h1, h2, h3⟩ := h.seg
  exact ⟨⟨lab, n, m, D, s, gs, f, h1.off hf (fun k hk => ⟨fun e => h2 k (Or.inl e) (hF k hk).1, fun e => h2 k (Or.inr e) (hF k hk).1, (hF k hk).2⟩), h2, h3⟩, h.byt, h.frm.trans hf (fun k hk e => by have := (hF k e).2; omega)⟩
theorem MemAt.keep (h : MemAt Z w2 W eb L sb x fl) (hf : Frm (fun _ => False) W W') : MemAt Z w2 W' eb L sb x fl := h.off hf (fun _ h => h.elim)
theorem eql_nil_nil9 (W : World) : (binOp .eql 33 .nilIface .nilIface).run Tryz.prog W = .ok (.bool true) W := run_eql_nil_nil W 33 (by kernel_rfl)
theorem eql_err_nil9 (u : TypeId) (v : Value) (W : World) : (binOp .eql 33 (.iface u v) .nilIface).run Tryz.prog W = .ok (.bool false) W := run_eql_held_nil W 33 u v (by kernel_rfl)
theorem guard_nil9 (W : World) (x : Operand) : (eqGuard .eql 33 x (.const .nilIface) .nilIface .nilIface).run Tryz.prog W = .ok () W := by
  simp [eqGuard]
theorem guard_err9 (u : TypeId) (v : Value) (W : World) (x : Operand) : (eqGuard .eql 33 x (.const .nilIface) (.iface u v) .nilIface).run Tryz.prog W = .ok () W := by
  simp [eqGuard]
/-- The records are handed in. -/
theorem MemAt.append (h : MemAt Z w2 W eb L sb x []) (hx : 1 ≤ x ∧ x ≤ 2305843009213693952) (A : Option Addr) (c : Nat) (rs : List Sg.Bytes) (hr : RecsAt W A rs) (hc : rs.length ≤ c) (hl : rs.length ≤ 524288) (hb : ∀ r, r ∈ rs → ∀ x, x ∈ r → 0 ≤ x ∧ x < 256) :
    Calls Tryz.prog 14 #[segP sb, .slice A rs.length c] W fun e w' => ∃ ev tk fl, e = .returned ev ∧ ((∀ W, (binOp .eql 33 ev .nilIface).run Tryz.prog W = .ok (.bool tk) W) ∧ ∀ W x, (eqGuard .eql 33 x (.const .nilIface) ev .nilIface).run Tryz.prog W = .ok () W) ∧ (tk = true ∧ fl = rs ∨ tk = false ∧ fl = []) ∧ MemAt (fun k => Z k ∧ k < W.heap.size) w2 w' eb L sb x fl ∧ Frm (fun k => ¬ Z k) W w' := by
  obtain ⟨lab, n, m, D, s, gs, f, h1, h2, h3, h4, h5⟩ := h.seg
  have hz : ∀ {w'}, Frm (fun _ => False) W w' → MemAt (fun k => Z k ∧ k < W.heap.size) w2 w' eb L sb x [] := fun hf =>
    ⟨⟨lab, n, m, D, s, gs, f, h1.frm hf, fun k hk hz => h2 k hk hz.1, h3, h4, h5⟩, h.byt, h.frm.trans hf (fun _ _ h => h)⟩
  by_cases h0 : rs = []
  · subst h0
    refine (append_none h1.seg h1.over.well h1.over.whole A c).mono ?_
    rintro e w' ⟨rfl, rfl⟩
    exact ⟨_, true, [], rfl, ⟨eql_nil_nil9, guard_nil9⟩, Or.inl ⟨rfl, rfl⟩, hz (Frm.refl _ _), (Frm.refl _ _)⟩
  · have hnx : s.next = x := by rw [h1.over.next, h5]; rfl
    have hpos : 0 < rs.length := List.length_pos_iff.2 h0
    by_cases hp : (packE s.next rs).1 = 0
    · obtain ⟨p1, p2, p3⟩ := Sg.packE_ok h0 hp
      have hsz := Sg.packE_size s.next rs
      have hm0 : m = 0 := by rw [h5] at h4; simpa using h4
      have hbl : s.blocks * 512 ≤ m := by
        have k1 := h1.seg.live.sz.len f (by rw [h1.one.files]; exact List.mem_singleton_self _)
        rw [h1.over.seen, Sg.lay_length Sg.crc gs x h1.over.good] at k1
        rw [h1.over.blocks]
        omega
      have hfl : (gs ++ Sg.cutRecs rs.length rs).flatten = rs := by
        rw [List.flatten_append, Sg.cutRecs_flatten rs.length rs (Nat.le_refl _) p2, h5]; rfl
      have K := h1.append (by omega) A c rs hr hc (by omega) hb h0 hp (.nine (by have := h3.1 rfl; omega) (by omega)) (by omega)
      refine K.mono ?_
      rintro e w' ⟨rfl, D', hc', lab', k1, k2, k3⟩
      refine ⟨_, true, rs, rfl, ⟨eql_nil_nil9, guard_nil9⟩, Or.inl ⟨rfl, rfl⟩, ⟨⟨lab', n + 1, _, D', _, _, _, k1, fun k hk hz => ?_, ?_, by rw [hfl]; omega, hfl⟩, hb, ?_⟩, ?_⟩
      · exact h2 k (hk.imp id (k3 k hz.2)) hz.1
      · exact ⟨fun e => absurd e h0, by have := h3.1 rfl; omega⟩
      · exact h.frm.trans k2 (fun k hk hF2 => by have := h1.own k hF2; omega)
      · exact k2.mono (fun k _ hk => h2 k hk)
    · have hnum : Sg.numbers s.next rs.length := by
        unfold Sg.numbers
        omega
      have K := append_refuse h1.seg h1.over.well h1.over.whole A c rs hr hc (by omega) hb h0 hp
      have e4 : (packE s.next rs).1 = 4 := by
        rcases Sg.packE_err (first := s.next) (rs := rs) with h | h | h
        · exact absurd h hp
        · exact absurd h (Sg.packE_num hnum)
        · exact h
      simp only [e4] at K
      refine K.mono ?_
      rintro e w' ⟨rfl, hf⟩
      exact ⟨_, false, [], rfl, ⟨fun W => by rw [errV_pos _ _ (by decide)]; exact eql_err_nil9 _ _ W, fun W x => by rw [errV_pos _ _ (by decide)]; exact guard_err9 _ _ W x⟩, Or.inr ⟨rfl, rfl⟩, hz hf, hf.mono (fun _ _ h => h.elim)⟩
theorem MemAt.open_ (h : MemAt Z w2 W eb L sb x fl) (hx : 1 ≤ x ∧ x ≤ 2305843009213693952) :
    Calls Tryz.prog 15 #[dptr (w2.heap.size + 2), .int .u64 x] W fun e w' => ∃ sb2 p c, e = .returned (.tuple #[segP sb2, .slice p fl.length c, .nilIface]) ∧ fl.length ≤ c ∧ MemAt (fun _ => False) w2 w' eb L sb2 x fl ∧ RecsOwn w' W.heap.size (.slice p fl.length c) fl ∧ Frm (fun _ => False) W w' := by
  obtain ⟨lab, n, m, D, s, gs, f, h1, h2, h3, h4, h5⟩ := h.seg
  have hby : ∀ x, x ∈ f.seen → 0 ≤ x ∧ x < 256 := by
    rw [h1.over.seen]
    exact lay_byte9 gs x (by rw [h5]; exact h.byt)
  have K := h1.open_ ⟨hx.1, by omega⟩ hby
  rw [h5] at K
  refine K.mono ?_
  rintro e w' ⟨sb2, p, c, rfl, k1, k2, k3, k4⟩
  obtain ⟨p', c', e1, hc⟩ := k3.form
  simp only [Value.slice.injEq, true_and] at e1
  obtain ⟨rfl, rfl⟩ := e1
  exact ⟨sb2, p, c, rfl, hc, ⟨⟨lab, n, m, D, s, gs, f, k2, fun _ _ h => h, h3, h4, h5⟩, h.byt, h.frm.trans k4 (fun _ _ h => h)⟩, k3, k4⟩
end
/-- One group, that the law makes. -/
theorem heavy_one {W : World} {A : Option Addr} {c : Nat} {rs : List Sg.Bytes} (hr : RecsAt W A rs) (hc : rs.length ≤ c) (hl : rs.length ≤ 4611686018427387904) (hb : ∀ r, r ∈ rs → r.length ≤ 140737488355328 ∧ ∀ x, x ∈ r → 0 ≤ x ∧ x < 256) :
    Calls Tryz.prog 11 #[.slice (some ⟨W.heap.size, 0, none⟩) 1 1] (W.alloc (.cells #[.slice A rs.length c, .bool false] 27)) fun e w' => e = .returned (.bool (decide (4194304 < heavyN [(rs, false)]))) ∧ Frm (fun _ => False) W w' := by
  refine (heavy_ok (gs := [(rs, false)]) (w := W.alloc (.cells #[.slice A rs.length c, .bool false] 27)) (A := some ⟨W.heap.size, 0, none⟩) (c := 1) ⟨fun j hj => ?_, Nat.le_refl _, by show 1 ≤ _; decide⟩).mono ?_
  · obtain rfl : j = 0 := by simpa using hj
    exact ⟨W.heap.size, 0, A, c, rfl, cell_of blk_alloc rfl, cell_of blk_alloc rfl, hc, hl, hr.frm ((Frm.refl _ _).alloc _), hb⟩
  · rintro e w' ⟨rfl, hf⟩
    exact ⟨rfl, ((Frm.refl _ _).alloc _).trans hf (fun _ _ h => h)⟩
theorem light_one {rs : List Sg.Bytes} (h : heavyN [(rs, false)] ≤ 4194304) : rs.length ≤ 524288 ∧ ∀ r, r ∈ rs → r.length ≤ 4194304 := by
  have h1 := Sg.heavy_sum h
  rw [Sg.groupSum_cons] at h1
  have h2 : Sg.groupSum [] = 0 := rfl
  have h3 := Sg.recSum_len rs
  refine ⟨by simp only at h1; omega, fun r hr => ?_⟩
  have h4 := Sg.recSum_mem hr
  simp only at h1
  omega
theorem Blk8.take {w : World} {g cap : Nat} {xs : List Int} (h : Blk8 w g cap xs) (l : Nat) : Blk8 w g cap (xs.take l) := by
  obtain ⟨cs, fz, h1, h2, h3, h4, h5, h6⟩ := h
  refine ⟨cs, fz, h1, h2, h3, by rw [List.length_take]; omega, h5, fun j hj => ?_⟩
  rw [List.length_take] at hj
  rw [h6 j (by omega), List.getD_eq_getElem?_getD, List.getD_eq_getElem?_getD, List.getElem?_take_of_lt (by omega)]
theorem Blk8.push {w : World} {g cap : Nat} {xs : List Int} (h : Blk8 w g cap xs) {n : Nat} (hn : n = xs.length) (hc : n < cap) (y : Int) : Blk8 (w.setCell ⟨g, n, none⟩ (.int .u8 y)) g cap (xs ++ [y]) := by
  subst hn
  obtain ⟨cs, fz, h1, h2, h3, h4, h5, h6⟩ := h
  refine ⟨cs.setIfInBounds xs.length (.int .u8 y), fz, blk_set h1, h2, by simpa using h3, by rw [List.length_append, List.length_singleton]; omega, h5, fun j hj => ?_⟩
  rw [List.length_append, List.length_singleton] at hj
  rw [Array.getElem?_setIfInBounds]
  by_cases e : xs.length = j
  · subst e
    rw [if_pos rfl, if_pos (by omega), List.getD_eq_getElem?_getD, List.getElem?_append_right (Nat.le_refl _), Nat.sub_self]
    rfl
  · rw [if_neg e, h6 j (by omega), List.getD_eq_getElem?_getD, List.getD_eq_getElem?_getD, List.getElem?_append_left (by omega)]
section
variable {w : World} {ops : Array Oper} {rest : List Oper} {o : Oper} {a : Act} {Q : Exit → Act → World → Prop}
theorem wpl_append_run9 {P : Program} (w : World) {ops : Array Oper} {rest : List Oper} {o : Oper} {a : Act} {Q : Exit → Act → World → Prop} (hg : o.guard = none) (s x : Operand) (t : TypeId) (hop : o.op = Op.call { callee := Callee.builtin Builtin.append, args := #[s, x], argTypes := #[t, t] })
    {v u v' : Value} {w' : World} (hs : a.eval s = v) (hx : a.eval x = u) (hrun : (Builtin.append_ #[t, t] o.type #[v, u]).run P w = .ok v' w') (hK : wpList P ops Q rest (a.put o.dst v') w') : wpList P ops Q (o :: rest) a w := by
  refine wpList_plain hg fun K hK' => ?_
  unfold Oper.wp
  simp [execOp, hop, resolve, invoke, builtin, hs, hx, hrun, Result.andThen]
  exact hK' _ _ hK
/-- 'append(b, y, y, y)': behind the row, or in a new one. -/
theorem wpl_append_three (hgd : o.guard = none) (s x : Operand) (ho : o.op = .call { callee := .builtin .append, args := #[s, x], argTypes := #[36, 36] })
    {g l cap b : Nat} {ys : List Int} {y : Int} (hb : Blk8 w g cap ys) (hl : l ≤ ys.length) (hl2 : l ≤ 140737488355000) (hs : a.eval s = .slice (some ⟨g, 0, none⟩) l cap) (hx : a.eval x = .slice (some ⟨b, 0, none⟩) 3 3) (hc : w.heap[b]? = some (.cells #[.int .u8 y, .int .u8 y, .int .u8 y] 5 (0, 0))) (hne : b ≠ g)
    (h : ∀ g' cap' w', Blk8 w' g' cap' (ys.take l ++ [y, y, y]) → (g' = g ∨ w.heap.size ≤ g') → Frm (fun k => k = g) w w' → wpList Tryz.prog ops Q rest (a.put o.dst (.slice (some ⟨g', 0, none⟩) (l + 3) cap')) w') :
    wpList Tryz.prog ops Q (o :: rest) a w := by
  obtain ⟨i0, hi0, hz0, hz1, hz2⟩ := info_parts byteInfo
  have hmx : maxLen = 9223372036854775807 := by decide
  have hle := hb.le
  have hm := hb.max
  have htl : (ys.take l).length = l := by rw [List.length_take]; omega
  have hnews : ∀ j u, (u8s [y, y, y])[j]? = some u → w.cell? ((⟨b, 0, none⟩ : Addr).add j) = some u := by
    intro j u hu
    rw [addO, Nat.zero_add]
    match j, hu with
    | 0, hu => cases hu; exact cell_of hc rfl
    | 1, hu => cases hu; exact cell_of hc rfl
    | 2, hu => cases hu; exact cell_of hc rfl
    | j + 3, hu => simp [u8s] at hu
  by_cases hroom : l + 3 ≤ cap
  · have hrun := run_append_room_cells (P := Tryz.prog) w 36 o.type 5 i0 Tryz.underlying36 hi0 g 0 l cap ⟨b, 0, none⟩ 3 3 (u8s [y, y, y]) (by simp [u8s, hz1]) hnews mem_oneCell hroom (fun j hj => by
      have hj3 : j < 3 := by simpa [u8s] using hj
      obtain ⟨cs, fz, h1, h2, h3, h4, h5, h6⟩ := hb
      simp [World.cell?, h1, hz1]; omega) (fun j hj => by
      have hj3 : j < 3 := by simpa [u8s] using hj
      rw [hz1]
      have : (0 + l * 1 + j) < cap := by omega
      exact hb.frozen this)
    have hset : w.setCells g (0 + l * i0.size) (u8s [y, y, y]) = ((w.setCell ⟨g, l, none⟩ (.int .u8 y)).setCell ⟨g, l + 1, none⟩ (.int .u8 y)).setCell ⟨g, l + 1 + 1, none⟩ (.int .u8 y) := by simp [World.setCells, hz1, u8s]
    rw [hset] at hrun
    refine wpl_append_run9 w hgd s x 36 ho hs hx hrun ?_
    have f1 : Frm (fun k => k = g) w (w.setCell ⟨g, l, none⟩ (.int .u8 y)) := (Frm.refl _ _).setCell _ _ (fun _ => rfl)
    have f2 : Frm (fun k => k = g) w ((w.setCell ⟨g, l, none⟩ (.int .u8 y)).setCell ⟨g, l + 1, none⟩ (.int .u8 y)) := f1.setCell _ _ (fun _ => rfl)
    have f3 : Frm (fun k => k = g) w (((w.setCell ⟨g, l, none⟩ (.int .u8 y)).setCell ⟨g, l + 1, none⟩ (.int .u8 y)).setCell ⟨g, l + 1 + 1, none⟩ (.int .u8 y)) := f2.setCell _ _ (fun _ => rfl)
    refine h g cap _ ?_ (Or.inl rfl) f3
    have h1 := ((((hb.take l).push htl.symm (by omega) y).push (n := l + 1) (by rw [List.length_append, htl]; rfl) (by omega) y).push (n := l + 1 + 1) (by rw [List.length_append, List.length_append, htl]; rfl) (by omega) y)
    simpa using h1
  · obtain ⟨v', w', hrun, r1, r2⟩ := run_append_arg_grows (P := Tryz.prog) w 36 o.type 5 i0 _ 1 1 Tryz.underlying36 hi0 hz0 hz1 hz2 rfl (by omega) ⟨g, 0, none⟩ l cap (u8s (ys.take l)) (by rw [u8s, List.length_map, htl]; omega) (fun j u hu => by
      rw [addO, Nat.zero_add]; exact (hb.take l).to_vals j u hu) ⟨b, 0, none⟩ 3 3 (u8s [y, y, y]) (by simp [u8s]) hnews (by omega) (by omega) (by omega)
    obtain ⟨g', cap', rfl, hc', hbg, hgw⟩ := row_shape r1 (by omega)
    refine wpl_append_run9 w hgd s x 36 ho hs hx hrun ?_
    refine h g' cap' w' ?_ (Or.inr hbg) ⟨r2.os, r2.tape, r2.output, r2.size, fun k hk _ => r2.block k hk (by simp)⟩
    refine Blk8.of_own (base := w.heap.size) (n := l + 3) ?_ (by rw [List.length_append, htl]; rfl)
    rw [show u8s (ys.take l ++ [y, y, y]) = u8s (ys.take l) ++ u8s [y, y, y] by simp [u8s]]
    exact r1
end
theorem frm_grown {w w1 w2 : World} {r : Option Nat} (h : Frm (fun _ => False) w w1) (hg : w1.grownBy w2 r) (hr : ∀ k, r = some k → w.heap.size ≤ k) : Frm (fun _ => False) w w2 :=
  h.trans (grown_frm hg) (fun k hk e => by have := hr k e; omega)
section
variable {w : World} {ops : Array Oper} {rest : List Oper} {o : Oper} {a : Act} {Q : Exit → Act → World → Prop}
/-- 'append(given, b)': one slice more in the row. -/
theorem wpl_append_rowW (hgd : o.guard = none) (s x : Operand) (ho : o.op = .call { callee := .builtin .append, args := #[s, x], argTypes := #[23, 23] })
    {w0 : World} {base n b g cap c2 l : Nat} {v : Value} {len : Nat → Nat} {X : Nat → List Int} (hs : a.eval s = v) (h0 : RowW (fun k => base ≤ k) w0 base v n len X) (hf : Frm (fun _ => False) w0 w) (hx : a.eval x = .slice (some ⟨b, 0, none⟩) 1 c2) (hc : w.cell? ⟨b, 0, none⟩ = some (.slice (some ⟨g, 0, none⟩) l cap))
    (hl : l = len n) (hb : Blk8 w g cap (X n)) (hlen : len n ≤ (X n).length) (hnew : w0.heap.size ≤ g) (hbase : base ≤ w0.heap.size) (hn : n ≤ 1099511627776)
    (h : ∀ p c w', RowW (fun k => base ≤ k) w' base (.slice p (n + 1) c) (n + 1) len X → w.grownBy w' v.ownBlock → (∀ k, v.ownBlock = some k → base ≤ k) → wpList Tryz.prog ops Q rest (a.put o.dst (.slice p (n + 1) c)) w') :
    wpList Tryz.prog ops Q (o :: rest) a w := by
  subst hl
  obtain ⟨i0, hi0, hz0, hz1, hz2⟩ := info_parts recsInfo
  have hmx : maxLen = 9223372036854775807 := by decide
  have h0' := h0
  obtain ⟨us, gs, h1, h2, h3, h4⟩ := h0
  refine wpList_append_lies w hgd s x 23 ho base 36 i0 _ 1 24 Tryz.underlying23 hi0 hz0 hz1 hz2 rfl (by omega) v n us hs (own_frm h1 hf) ⟨b, 0, none⟩ 1 c2 [.slice (some ⟨g, 0, none⟩) (len n) cap] hx rfl (fun j u hu => ?_) (fun u hu => by rw [List.mem_singleton.1 hu]; rfl) (by omega) (by omega) (by omega) (Nat.le_trans hbase hf.size) w.heap.size rfl ?_
  · cases j with
    | zero => cases hu; rw [addO, Nat.add_zero]; exact hc
    | succ j => simp at hu
  · intro g' cap' w' k1 k2 k3 k4
    refine h _ _ w' (h0'.snoc hf (fun us' hus' => ?_) k2 hb hlen hnew (Nat.le_trans hbase hnew) (fun k hk => hk)) k2 (fun k hk => (own_low h1 hk).1)
    have e : us' = us := by
      have a1 := own_frm h1 hf
      rcases a1.2 with ⟨hv, e0⟩ | ⟨q, qc, cur, hv, _, q2, _, _, _, q6⟩
      · have e1 := a1.1
        have e2 := hus'.1
        rw [e0] at e1 e2
        rw [List.eq_nil_of_length_eq_zero (by omega : us.length = 0), List.eq_nil_of_length_eq_zero (by omega : us'.length = 0)]
      · rcases hus'.2 with ⟨hv2, e0⟩ | ⟨r, rc, cur2, hv2, _, r2, _, _, _, r6⟩
        · rw [hv] at hv2; cases hv2
        · rw [hv] at hv2
          simp only [Value.slice.injEq, Option.some.injEq, Addr.mk.injEq, true_and, and_true] at hv2
          obtain ⟨rfl, _⟩ := hv2
          rw [q2] at r2
          simp only [Option.some.injEq, Obj.cells.injEq, true_and, and_true] at r2
          rw [← q6, ← r6, r2]
    rw [e]
    exact k1
end
end Go.Proofs.YtkmmlfphcfcbgaaGreatDoor.Dw
