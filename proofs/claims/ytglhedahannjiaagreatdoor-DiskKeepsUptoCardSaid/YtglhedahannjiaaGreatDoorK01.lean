/- A part of the proof of diskKeepsUpto_holds: Ga, Gb, Dp11. No condition. -/
import Derived.ArgAppend
import Derived.Deep.AppendLies
import Derived.Test.YtglhedahannjiaaGreatDoorK00

/- Walks: grow, spoil: what may be written over. -/
namespace Go.Proofs.YtglhedahannjiaaGreatDoor.Dw
open Go.RowKit Go.ChangeMaps Go.Proofs.YtglhedahannjiaaGreatDoor.Mp Go.Proofs.YtglhedahannjiaaGreatDoor.Dm Go.Proofs.YtglhedahannjiaaGreatDoor.Da
open Go.Proofs.YtglhedahannjiaaGreatDoorW.PrintWords (Kd ReadsInt)
set_option linter.unusedVariables false
set_option linter.unusedSimpArgs false
set_option linter.unusedSectionVars false
/-- Nothing but rows of bytes, of numbers, of files in the blocks of S is written, and what is written is of its kind. -/
structure Sp (S : Nat → Prop) (w w' : World) : Prop where
  frm : Frm S w w'
  keep : ∀ (k : Nat) (cs : Array Value) (e : TypeId), w.heap[k]? = some (Obj.cells cs e (0, 0)) → ∃ cs' : Array Value, w'.heap[k]? = some (.cells cs' e (0, 0)) ∧ cs'.size = cs.size ∧
    (e = 5 → ∀ (i : Nat) (x : Int), cs[i]? = some (Value.int .u8 x) → ∃ y, cs'[i]? = some (Value.int .u8 y)) ∧
    (e = 41 → ∀ (i : Nat) (v : Value), cs[i]? = some v → cs'[i]? = some v ∨ (i % 3 = 0 ∧ ∃ s, cs'[i]? = some (Value.string s)))
theorem Sp.of_frm {S : Nat → Prop} {w w' : World} (h : Frm (fun _ => False) w w') : Sp S w w' :=
  ⟨h.mono (fun _ _ h => h.elim), fun k cs e hk => ⟨cs, (h.block k (Da.blk_lt hk) id).trans hk, rfl, fun _ i x hx => ⟨x, hx⟩, fun _ i v hv => .inl hv⟩⟩
theorem Sp.refl (S : Nat → Prop) (w : World) : Sp S w w := Sp.of_frm (Frm.refl _ _)
theorem Sp.trans {S : Nat → Prop} {a b c : World} (h : Sp S a b) (k : Sp S b c) : Sp S a c := by
  refine ⟨h.frm.trans k.frm (fun _ _ h => h), fun i cs e hi => ?_⟩
  obtain ⟨cs1, h1, h2, h3, h4⟩ := h.keep i cs e hi
  obtain ⟨cs2, k1, k2, k3, k4⟩ := k.keep i cs1 e h1
  refine ⟨cs2, k1, k2.trans h2, fun he j x hx => ?_, fun he j v hv => ?_⟩
  · obtain ⟨y, hy⟩ := h3 he j x hx
    exact k3 he j y hy
  · rcases h4 he j v hv with h5 | ⟨hm, s, h5⟩
    · exact k4 he j v h5
    · rcases k4 he j _ h5 with h6 | h6
      · exact .inr ⟨hm, s, h6⟩
      · exact .inr h6
theorem Sp.mono {S T : Nat → Prop} {w w' : World} (h : Sp S w w') (hS : ∀ k, k < w.heap.size → S k → T k) : Sp T w w' := ⟨h.frm.mono hS, h.keep⟩
theorem Sp.set {S : Nat → Prop} {w : World} {k i : Nat} {cs : Array Value} {e : TypeId} {v : Value} (hk : w.heap[k]? = some (.cells cs e (0, 0))) (hS : S k) (h8 : e = 5 → ∃ y, v = .int .u8 y) (hf : e = 41 → i % 3 = 0 ∧ ∃ s, v = .string s) : Sp S w (w.setCell ⟨k, i, none⟩ v) := by
  refine ⟨(Frm.refl _ _).setCell _ _ (fun _ => hS), fun j cs1 e1 hj => ?_⟩
  by_cases hjk : j = k
  · subst hjk
    rw [hk] at hj
    obtain ⟨rfl, rfl⟩ : cs = cs1 ∧ e = e1 := by simpa using hj
    have hget : ∀ n u, cs[n]? = some u → (cs.setIfInBounds i v)[n]? = some (if i = n then v else u) := by
      intro n u hu
      have hn := (Array.getElem?_eq_some_iff.1 hu).1
      rw [Array.getElem?_setIfInBounds]
      split
      · rename_i h; subst h; rw [if_pos hn]
      · exact hu
    refine ⟨_, blk_set hk, by simp, fun he n x hx => ?_, fun he n u hu => ?_⟩
    · rw [hget n _ hx]
      split
      · obtain ⟨y, rfl⟩ := h8 he; exact ⟨y, rfl⟩
      · exact ⟨x, rfl⟩
    · rw [hget n _ hu]
      split
      · rename_i h; subst h
        obtain ⟨hm, s, rfl⟩ := hf he; exact .inr ⟨hm, s, rfl⟩
      · exact .inl rfl
  · exact ⟨cs1, (blk_set_ne hjk).trans hj, rfl, fun _ n x hx => ⟨x, hx⟩, fun _ n u hu => .inl hu⟩
/-- A row of e's cells in the blocks of S; its first n cells are of P. -/
def RowS (e : TypeId) (P : Value → Prop) (w : World) (S : Nat → Prop) (n : Nat) (v : Value) : Prop :=
  (∃ A : Option Addr, v = .slice A 0 0 ∧ n = 0) ∨ ∃ (k o c : Nat) (cs : Array Value), v = .slice (some ⟨k, o, none⟩) n c ∧ S k ∧ w.heap[k]? = some (.cells cs e (0, 0)) ∧ n ≤ c ∧ c ≤ maxLen ∧ o + c ≤ cs.size ∧ ∀ i, i < n → ∃ u, cs[o + i]? = some u ∧ P u
def Is8 (v : Value) : Prop := ∃ x, v = .int .u8 x
theorem RowS.sp8 {w w' : World} {S : Nat → Prop} {n : Nat} {v : Value} (h : RowS 5 Is8 w S n v) (hs : Sp S w w') : RowS 5 Is8 w' S n v := by
  rcases h with h | ⟨k, o, c, cs, rfl, h1, h2, h3, h4, h5, h6⟩
  · exact .inl h
  · obtain ⟨cs', k1, k2, k3, _⟩ := hs.keep k cs _ h2
    refine .inr ⟨k, o, c, cs', rfl, h1, k1, h3, h4, by omega, fun i hi => ?_⟩
    obtain ⟨u, hu, x, rfl⟩ := h6 i hi
    obtain ⟨y, hy⟩ := k3 rfl (o + i) x hu
    exact ⟨_, hy, y, rfl⟩
theorem RowS.sp64 {w w' : World} {S : Nat → Prop} {n : Nat} {v : Value} (h : RowS 3 (fun _ => True) w S n v) (hs : Sp S w w') : RowS 3 (fun _ => True) w' S n v := by
  rcases h with h | ⟨k, o, c, cs, rfl, h1, h2, h3, h4, h5, h6⟩
  · exact .inl h
  · obtain ⟨cs', k1, k2, _, _⟩ := hs.keep k cs _ h2
    refine .inr ⟨k, o, c, cs', rfl, h1, k1, h3, h4, by omega, fun i hi => ⟨_, Array.getElem?_eq_getElem (by omega), trivial⟩⟩
theorem RowS.mono {e : TypeId} {P : Value → Prop} {w : World} {S T : Nat → Prop} {n : Nat} {v : Value} (h : RowS e P w S n v) (hS : ∀ k, S k → T k) : RowS e P w T n v := by
  rcases h with h | ⟨k, o, c, cs, rfl, h1, h2⟩
  · exact .inl h
  · exact .inr ⟨k, o, c, cs, rfl, hS k h1, h2⟩
theorem RowS.of_own {e : TypeId} {P : Value → Prop} {w : World} {base : Nat} {n : Nat} {v : Value} {xs : List Value} (h : w.ownsRow base e 1 v n xs) (hP : ∀ u, u ∈ xs → P u) {S : Nat → Prop} (hS : ∀ k, v.ownBlock = some k → S k) : RowS e P w S n v := by
  obtain ⟨hl, ⟨rfl, rfl⟩ | ⟨g, cap, cur, rfl, h1, h2, h3, h4, h5, h6⟩⟩ := h
  · exact .inl ⟨none, rfl, rfl⟩
  · refine .inr ⟨g, 0, cap, cur, rfl, hS g rfl, h2, h3, h4, by omega, fun i hi => ?_⟩
    have hx : (cur.toList.take (n * 1))[i]? = xs[i]? := by rw [h6]
    rw [List.getElem?_take, if_pos (by omega)] at hx
    have hi2 : i < xs.length := by omega
    rw [List.getElem?_eq_getElem hi2, Array.getElem?_toList] at hx
    exact ⟨_, by rw [Nat.zero_add]; exact hx, hP _ (List.getElem_mem hi2)⟩
theorem RowS.slice {e : TypeId} {P : Value → Prop} {w : World} {S : Nat → Prop} {n : Nat} {v : Value} (h : RowS e P w S n v) : ∃ p c, v = .slice p n c := by
  rcases h with ⟨A, rfl, rfl⟩ | ⟨k, o, c, cs, rfl, _⟩
  · exact ⟨_, _, rfl⟩
  · exact ⟨_, _, rfl⟩
/-- One element behind a row that may be written. -/
theorem append_step {e t : TypeId} {P : Value → Prop} {w : World} {S : Nat → Prop} {n : Nat} {v : Value} (h : RowS e P w S n v) (hup : ∀ k, w.heap.size ≤ k → S k) (ht : Tryz.prog.underlying t = some (.slice e)) {i : TypeInfo} (hi : Tryz.prog.info? e = some i) {z : Value} (hz : i.zero = some z) {bytes : Nat} (hsz : i.size = 1) (hby : i.bytes = bytes) (hzs : z.cells.size = 1)
    (ty : TypeId) (a : Addr) (u : Value) (ha : w.cell? a = some u) (h1 : u.oneCell' = true) (hP : P u) (h8 : e = 5 → ∃ y, u = .int .u8 y) (hf : e ≠ 41) (b1 : n + 1 ≤ maxLen) (b2 : (n + 1) * bytes ≤ 140737488355328) :
    ∃ v' w', (Builtin.append_ #[t, t] ty #[v, .slice (some a) 1 1]).run Tryz.prog w = .ok v' w' ∧ RowS e P w' S (n + 1) v' ∧ Sp S w w' := by
  have hnews : ∀ j x, [u][j]? = some x → w.cell? (a.add j) = some x := by
    intro j x hx
    cases j with
    | zero => cases hx; rw [show a.add 0 = a by cases a; rfl]; exact ha
    | succ j => cases hx
  have own : ∀ (w' : World) (v' : Value) (xs : List Value), w'.ownsRow w.heap.size e 1 v' (n + 1) (xs ++ [u]) → (∀ x, x ∈ xs → P x) → RowS e P w' S (n + 1) v' := fun w' v' xs hr hx =>
    RowS.of_own hr (fun x hm => by rcases List.mem_append.1 hm with hm | hm; exact hx x hm; rw [List.mem_singleton.1 hm]; exact hP) (fun k hk => hup k (own_low hr hk).1)
  rcases h with ⟨A, rfl, rfl⟩ | ⟨k, o, c, cs, rfl, hS, hk, hnc, hcm, hoc, hcs⟩
  · cases A with
    | none =>
      obtain ⟨v', w', hrun, r1, r2, _⟩ := run_append_own (P := Tryz.prog) w w.heap.size t ty e i z 1 bytes ht hi hz hsz hby hzs (by omega) (.slice none 0 0) 0 [] (World.ownsRow_nil w _ e 1) a 1 1 [u] rfl hnews (fun x hx => by rw [List.mem_singleton.1 hx]; exact h1) (by simp only [maxLen]; omega) (by omega) (Nat.le_refl _)
      refine ⟨v', w', hrun, own _ _ [] r1 (fun x hx => by cases hx), Sp.of_frm ?_⟩
      exact ⟨r2.os, r2.tape, r2.output, r2.size, fun k hk _ => r2.block k hk (by simp [Value.ownBlock])⟩
    | some b =>
      obtain ⟨v', w', hrun, r1, r2⟩ := run_append_arg_grows (P := Tryz.prog) w t ty e i z 1 bytes ht hi hz hsz hby hzs (by omega) b 0 0 [] rfl (fun j x hx => by cases hx) a 1 1 [u] rfl hnews (by omega) b1 b2
      refine ⟨v', w', hrun, own _ _ [] r1 (fun x hx => by cases hx), Sp.of_frm ⟨r2.os, r2.tape, r2.output, r2.size, fun k hk _ => r2.block k hk (by simp)⟩⟩
  · by_cases hroom : n + 1 ≤ c
    · have hc : (w.cell? ⟨k, o + n, none⟩).isSome = true := by simp [World.cell?, hk]; omega
      have hfz : w.frozen? ⟨k, o + n, none⟩ = false := frozen_of hk
      have hrun := run_append_room_cells (P := Tryz.prog) w t ty e i ht hi k o n c a 1 1 [u] (by simp [hsz]) hnews (by simpa using h1) hroom (fun j hj => by have hj0 : j = 0 := (by simp at hj; omega); subst hj0; simpa [hsz] using hc) (fun j hj => by have hj0 : j = 0 := (by simp at hj; omega); subst hj0; simpa [hsz] using hfz)
      have hset : w.setCells k (o + n * i.size) [u] = w.setCell ⟨k, o + n, none⟩ u := by simp [World.setCells, hsz]
      rw [hset] at hrun
      have hsp : Sp S w (w.setCell ⟨k, o + n, none⟩ u) := Sp.set hk hS h8 (fun e => absurd e hf)
      refine ⟨_, _, hrun, .inr ⟨k, o, c, _, rfl, hS, blk_set hk, hroom, hcm, by simpa using hoc, fun j hj => ?_⟩, hsp⟩
      rw [Array.getElem?_setIfInBounds]
      by_cases hjn : j = n
      · subst hjn; rw [if_pos rfl, if_pos (by omega)]; exact ⟨u, rfl, hP⟩
      · rw [if_neg (by omega)]; exact hcs j (by omega)
    · have hlo : ((cs.toList.drop o).take n).length = n * 1 := by simp; omega
      have hold : ∀ j x, ((cs.toList.drop o).take n)[j]? = some x → j < n ∧ cs[o + j]? = some x := by
        intro j x hx
        rw [List.getElem?_take] at hx
        split at hx
        · rename_i hj
          rw [List.getElem?_drop, Array.getElem?_toList] at hx
          exact ⟨hj, hx⟩
        · cases hx
      obtain ⟨v', w', hrun, r1, r2⟩ := run_append_arg_grows (P := Tryz.prog) w t ty e i z 1 bytes ht hi hz hsz hby hzs (by omega) ⟨k, o, none⟩ n c ((cs.toList.drop o).take n) hlo (fun j x hx => by rw [Addr.add_lit]; exact cell_of hk (hold j x hx).2) a 1 1 [u] rfl hnews (by omega) b1 b2
      refine ⟨v', w', hrun, own _ _ _ r1 (fun x hx => ?_), Sp.of_frm ⟨r2.os, r2.tape, r2.output, r2.size, fun k hk _ => r2.block k hk (by simp)⟩⟩
      obtain ⟨j, hj⟩ := List.mem_iff_getElem?.1 hx
      obtain ⟨h1, h2⟩ := hold j x hj
      obtain ⟨u2, h3, h4⟩ := hcs j h1
      rw [h2] at h3; cases h3; exact h4
theorem wpList_append_run {P : Program} (w : World) {ops : Array Oper} {rest : List Oper} {o : Oper} {a : Act} {Q : Exit → Act → World → Prop} (hg : o.guard = none) (s x : Operand) (t : TypeId) (hop : o.op = Op.call { callee := Callee.builtin Builtin.append, args := #[s, x], argTypes := #[t, t] })
    {v u v' : Value} {w' : World} (hs : a.eval s = v) (hx : a.eval x = u) (hrun : (Builtin.append_ #[t, t] o.type #[v, u]).run P w = .ok v' w') (hK : wpList P ops Q rest (a.put o.dst v') w') : wpList P ops Q (o :: rest) a w := by
  refine wpList_plain hg fun K hK' => ?_
  unfold Oper.wp
  simp [execOp, hop, resolve, invoke, builtin, hs, hx, hrun, Result.andThen]
  exact hK' _ _ hK
set_option maxHeartbeats 1000000 in
set_option maxRecDepth 100000 in
theorem grow_calls (w : World) (S : Nat → Prop) (v1 v2 : Value) (n1 n2 : Nat) (h1 : RowS 5 Is8 w S n1 v1) (h2 : RowS 3 (fun _ => True) w S n2 v2) (b1 : n1 ≤ 1099511627776) (b2 : n2 ≤ 1099511627776) :
    Calls Tryz.prog 98 #[v1, v2] w fun e w' => e = .returned (.tuple #[]) ∧ Sp S w w' := by
  obtain ⟨T, hT⟩ : ∃ T : Nat → Prop, ∀ k, T k ↔ (S k ∨ w.heap.size ≤ k) := ⟨_, fun _ => Iff.rfl⟩
  have h1 := Lib.hid (h1.mono (fun k hk => (hT k).2 (.inl hk)))
  have h2 := Lib.hid (h2.mono (fun k hk => (hT k).2 (.inl hk)))
  obtain ⟨i8, hi8, hz8, hz81, hz82⟩ := info_parts byteInfo
  obtain ⟨i64, hi64, hz64, hz641, hz642⟩ := info_parts intInfo
  have A8 : Hid (∀ (W : World) (n : Nat) (v : Value) (g : Nat), RowS 5 Is8 W T n v → w.heap.size ≤ W.heap.size → n ≤ 1099511627800 → W.heap[g]? = some (.cells #[.int .u8 165] 5 (0, 0)) → ∀ ty, ∃ v' w', (Builtin.append_ #[22, 22] ty #[v, .slice (some ⟨g, 0, none⟩) 1 1]).run Tryz.prog W = .ok v' w' ∧ RowS 5 Is8 w' T (n + 1) v' ∧ Sp T W w') :=
    fun W n v g h hw hn hg ty => append_step h (fun k hk => (hT k).2 (.inr (by omega))) Tryz.underlying22 hi8 hz8 hz81 hz82 rfl ty ⟨g, 0, none⟩ (.int .u8 165) (cell_of hg rfl) rfl ⟨165, rfl⟩ (fun _ => ⟨_, rfl⟩) (by decide) (by simp only [maxLen]; omega) (by omega)
  have A64 : Hid (∀ (W : World) (n : Nat) (v : Value) (g : Nat), RowS 3 (fun _ => True) W T n v → w.heap.size ≤ W.heap.size → n ≤ 1099511627800 → W.heap[g]? = some (.cells #[.int .i64 78] 3 (0, 0)) → ∀ ty, ∃ v' w', (Builtin.append_ #[23, 23] ty #[v, .slice (some ⟨g, 0, none⟩) 1 1]).run Tryz.prog W = .ok v' w' ∧ RowS 3 (fun _ => True) w' T (n + 1) v' ∧ Sp T W w') :=
    fun W n v g h hw hn hg ty => append_step h (fun k hk => (hT k).2 (.inr (by omega))) Tryz.underlying23 hi64 hz64 hz641 hz642 rfl ty ⟨g, 0, none⟩ (.int .i64 78) (cell_of hg rfl) rfl trivial (fun e => absurd e (by decide)) (by decide) (by simp only [maxLen]; omega) (by omega)
  have HT := Lib.hid hT
  clear hT hi8 hz8 hz81 hz82 hi64 hz64 hz641 hz642
  go_enter Tryz.func98, Tryz.ntmps98
  go_wp2
  obtain ⟨p1, c1, e1⟩ := h1.out.slice
  obtain ⟨p2, c2, e2⟩ := h2.out.slice
  subst e1
  subst e2
  go_loopw [0, 1, 4] (fun a b v wr => ∃ j p c q d, v = .int .i64 (j : Nat) ∧ a = .slice p (n1 + j) c ∧ b = .slice q (n2 + j) d ∧ j ≤ 16 ∧ RowS 5 Is8 wr T (n1 + j) (.slice p (n1 + j) c) ∧ RowS 3 (fun _ => True) wr T (n2 + j) (.slice q (n2 + j) d) ∧ Sp T w wr) (fun _ _ v _ => 16 - (intOf v).toNat)
  case atStart => exact ⟨0, _, _, _, _, rfl, rfl, rfl, by omega, h1.out, h2.out, Sp.refl _ _⟩
  case round =>
    obtain ⟨j, p, c, q, d, rfl, rfl, rfl, hj, ha, hb, hs⟩ := hrel
    have HR := Lib.hid (And.intro ha (And.intro hb hs))
    clear ha hb hs
    by_cases hlt : j < 16
    · obtain ⟨a', w1, e1, r1, s1⟩ := A8.out (wr.alloc (.cells #[.int .u8 165] 5)) (n1 + j) _ wr.heap.size (HR.out.1.sp8 (Sp.of_frm ((Frm.refl _ _).alloc _))) (by have := HR.out.2.2.frm.size; simp only [World.size_alloc]; omega) (by omega) blk_alloc 22
      have t1 : Sp T w w1 := HR.out.2.2.trans ((Sp.of_frm ((Frm.refl _ _).alloc _)).trans s1)
      have hb1 : RowS 3 (fun _ => True) w1 T (n2 + j) (.slice q (n2 + j) d) := HR.out.2.1.sp64 ((Sp.of_frm ((Frm.refl _ _).alloc _)).trans s1)
      obtain ⟨b', w2, e2, r2, s2⟩ := A64.out (w1.alloc (.cells #[.int .i64 78] 3)) (n2 + j) _ w1.heap.size (hb1.sp64 (Sp.of_frm ((Frm.refl _ _).alloc _))) (by have := t1.frm.size; simp only [World.size_alloc]; omega) (by omega) blk_alloc 23
      have t2 : Sp T w w2 := t1.trans ((Sp.of_frm ((Frm.refl _ _).alloc _)).trans s2)
      have ra : RowS 5 Is8 w2 T (n1 + j + 1) a' := r1.sp8 ((Sp.of_frm ((Frm.refl _ _).alloc _)).trans s2)
      obtain ⟨p', c', rfl⟩ := ra.slice
      obtain ⟨q', d', rfl⟩ := r2.slice
      have HE := Lib.hid (And.intro e1 e2)
      have HX := Lib.hid (And.intro ra (And.intro r2 t2))
      clear e1 e2 r1 s1 t1 hb1 r2 s2 t2 ra A8 A64 h1 h2
      go_wp2_with (first
        | (at_builtin; refine wpList_append_run _ rfl _ _ 22 rfl rfl rfl HE.out.1 ?_)
        | (at_builtin; refine wpList_append_run _ rfl _ _ 23 rfl rfl rfl HE.out.2 ?_))
      exact ⟨⟨j + 1, _, _, _, _, by go_num, rfl, rfl, by omega, HX.out.1, HX.out.2.1, HX.out.2.2⟩, by simp [intOf]; omega⟩
    · obtain rfl : j = 16 := by omega
      go_wp2
      refine bodyPost_end (results_none rfl _ _ _) rfl ⟨rfl, ?_⟩
      exact HR.out.2.2.mono (fun k hk hT => ((HT.out k).1 hT).resolve_right (by omega))
/-- An image whose memory may be written over. -/
structure Files (w : World) (S : Nat → Prop) (g n : Nat) : Prop where
  row : ∃ cs : Array Value, w.heap[g]? = some (.cells cs 41 (0, 0)) ∧ n * 3 ≤ cs.size ∧ ∀ j, j < n → ∃ s n1 dv n2 bv, cs[j * 3]? = some (Value.string s) ∧ cs[j * 3 + 1]? = some dv ∧ cs[j * 3 + 2]? = some bv ∧
    RowS 5 Is8 w S n1 dv ∧ n1 ≤ 1099511627776 ∧ RowS 3 (fun _ => True) w S n2 bv ∧ n2 ≤ 1099511627776
  mine : S g
theorem Files.sp {w w' : World} {S : Nat → Prop} {g n : Nat} (h : Files w S g n) (hs : Sp S w w') : Files w' S g n := by
  obtain ⟨⟨cs, h1, h2, h3⟩, h4⟩ := h
  obtain ⟨cs', k1, k2, _, k4⟩ := hs.keep g cs _ h1
  refine ⟨⟨cs', k1, by omega, fun j hj => ?_⟩, h4⟩
  obtain ⟨s, n1, dv, n2, bv, a1, a2, a3, a4, a5, a6, a7⟩ := h3 j hj
  have b2 := (k4 rfl _ _ a2).resolve_right (fun h => by have := h.1; omega)
  have b3 := (k4 rfl _ _ a3).resolve_right (fun h => by have := h.1; omega)
  rcases k4 rfl _ _ a1 with b1 | ⟨_, s', b1⟩
  · exact ⟨s, n1, dv, n2, bv, b1, b2, b3, a4.sp8 hs, a5, a6.sp64 hs, a7⟩
  · exact ⟨s', n1, dv, n2, bv, b1, b2, b3, a4.sp8 hs, a5, a6.sp64 hs, a7⟩
set_option maxHeartbeats 2000000 in
set_option maxRecDepth 100000 in
theorem spoil_calls (w : World) (S : Nat → Prop) (A : Option Addr) (n c : Nat) (hn : n ≤ 1099511627776) (hc : n ≤ c) (h : 0 < n → ∃ g, A = some ⟨g, 0, none⟩ ∧ Files w S g n) (hS : ∀ k, S k → k < w.heap.size) :
    Calls Tryz.prog 46 #[.agg #[.slice A n c]] w fun e w' => e = .returned (.tuple #[]) ∧ Sp S w w' := by
  have HF := Lib.hid h
  have HS := Lib.hid hS
  have KG := Lib.hid (fun W v1 v2 n1 n2 h1 h2 b1 b2 => grow_calls W S v1 v2 n1 n2 h1 h2 b1 b2)
  clear h hS
  go_enter Tryz.func46, Tryz.ntmps46
  go_wp2
  obtain ⟨w1, hw1⟩ : ∃ w1, w1 = w.alloc (.cells #[.slice A n c] 36) := ⟨_, rfl⟩
  rw [← hw1]
  have f1 : Frm (fun _ => False) w w1 := by rw [hw1]; exact (Frm.refl _ _).alloc _
  have b1 : w1.heap[w.heap.size]? = some (.cells #[.slice A n c] 36 (0, 0)) := by rw [hw1]; exact blk_alloc
  have H1 := Lib.hid (And.intro f1 b1)
  clear f1 b1 hw1
  go_loopw [2] (fun v wr => ∃ j, v = .int .i64 (j : Nat) ∧ j ≤ n ∧ Sp S w1 wr) (fun v _ => n - (intOf v).toNat)
  case atStart => exact ⟨0, rfl, Nat.zero_le _, Sp.refl _ _⟩
  case round =>
    obtain ⟨j, rfl, hj, hs⟩ := hrel
    obtain ⟨wo, hwo⟩ : ∃ wo, wo = wr := ⟨_, rfl⟩
    subst hwo
    have hbx : wo.heap[w.heap.size]? = some (.cells #[.slice A n c] 36 (0, 0)) := (hs.frm.block _ (Da.blk_lt H1.out.2) (fun h => by have := HS.out _ h; omega)).trans H1.out.2
    have x0 : wo.cell? ⟨w.heap.size, 0, none⟩ = some (.slice A n c) := cell_of hbx rfl
    by_cases hlt : j < n
    · obtain ⟨g, rfl, hF⟩ := HF.out (by omega)
      have hFr : Files wo S g n := hF.sp ((Sp.of_frm H1.out.1).trans hs)
      obtain ⟨⟨cs, q1, q2, q3⟩, hg⟩ := id hFr
      obtain ⟨s, n1, dv, n2, bv, a1, a2, a3, a4, a5, a6, a7⟩ := q3 j hlt
      obtain ⟨p1, c1, rfl⟩ := a4.slice
      obtain ⟨p2, c2, rfl⟩ := a6.slice
      have y0 : wo.cell? ⟨g, j * 3, none⟩ = some (.string s) := cell_of q1 a1
      have y1 : wo.cell? ⟨g, j * 3 + 1, none⟩ = some (.slice p1 n1 c1) := cell_of q1 a2
      have y2 : wo.cell? ⟨g, j * 3 + 2, none⟩ = some (.slice p2 n2 c2) := cell_of q1 a3
      have hjc : j < c := by omega
      obtain ⟨w2, hw2⟩ : ∃ w2, w2 = wo.alloc (.cells #[.string s, .slice p1 n1 c1, .slice p2 n2 c2] 41) := ⟨_, rfl⟩
      have f2 : Frm (fun _ => False) wo w2 := by rw [hw2]; exact (Frm.refl _ _).alloc _
      have b2 : w2.heap[wo.heap.size]? = some (.cells #[.string s, .slice p1 n1 c1, .slice p2 n2 c2] 41 (0, 0)) := by rw [hw2]; exact blk_alloc
      have hsz : w.heap.size < wo.heap.size := Da.blk_lt hbx
      have HR := Lib.hid (And.intro hs (And.intro f2 (And.intro b2 (And.intro hbx (And.intro a4 (And.intro a6 hFr))))))
      have HQ := Lib.hid (And.intro q1 q2)
      clear hs f2 b2 hbx a4 a6 hFr q1 q2 q3 hg a1 a2 a3 hF
      go_upto_region 5 with (fail)
      rw [← hw2]
      clear hw2 y0 y1 y2 x0
      go_wp2
      go_loopw [4] (fun v wx => ∃ k, v = .int .i64 (k : Nat) ∧ k ≤ n1 ∧ Sp S w2 wx) (fun v _ => n1 - (intOf v).toNat)
      case atStart => exact ⟨0, rfl, Nat.zero_le _, Sp.refl _ _⟩
      case round =>
        obtain ⟨k, rfl, hk, hx⟩ := hrel
        have bx2 : wr.heap[wo.heap.size]? = some (.cells #[.string s, .slice p1 n1 c1, .slice p2 n2 c2] 41 (0, 0)) := (hx.frm.block _ (Da.blk_lt HR.out.2.2.1) (fun h => by have := HS.out _ h; omega)).trans HR.out.2.2.1
        have z1 : wr.cell? ⟨wo.heap.size, 1, none⟩ = some (.slice p1 n1 c1) := cell_of bx2 rfl
        have z2 : wr.cell? ⟨wo.heap.size, 2, none⟩ = some (.slice p2 n2 c2) := cell_of bx2 rfl
        by_cases hkl : k < n1
        · have r1 := HR.out.2.2.2.2.1.sp8 ((Sp.of_frm HR.out.2.1).trans hx)
          rcases r1 with ⟨_, _, rfl⟩ | ⟨g1, o1, c1', ds, e, r2, r3, r4, r5, r6, r7⟩
          · omega
          · obtain ⟨rfl, rfl⟩ : p1 = some ⟨g1, o1, none⟩ ∧ c1 = c1' := by simpa using e
            obtain ⟨u, hu, x, rfl⟩ := r7 k hkl
            have m1 : wr.cell? ⟨g1, o1 + k, none⟩ = some (.int .u8 x) := cell_of r3 hu
            have m2 : wr.frozen? ⟨g1, o1 + k, none⟩ = false := frozen_of r3
            have hkc : k < c1 := by omega
            have hset : ∀ y : Int, Sp S wr (wr.drew.setCell ⟨g1, o1 + k, none⟩ (.int .u8 y)) := fun y => (Sp.of_frm (Frm.refl _ _).drew).trans (Sp.set (w := wr.drew) r3 r2 (fun _ => ⟨y, rfl⟩) (fun e => absurd e (by decide)))
            have HX := Lib.hid (And.intro hx hset)
            clear e r2 r3 r4 r5 r6 r7 hu hset hx bx2
            go_wp2
            go_still_tail 10, (by kernel_rfl)
            change wpList _ _ _ _ _ wr.drew
            go_wp2_with fail
            exact ⟨⟨k + 1, by go_num, by omega, HX.out.1.trans (HX.out.2 _)⟩, by simp [intOf]; omega⟩
        · obtain rfl : k = n1 := by omega
          have HX1 := Lib.hid hx
          clear hx bx2
          obtain ⟨w3, hw3⟩ : ∃ w3, w3 = wr := ⟨_, rfl⟩
          subst hw3
          go_wp2
          go_loopw [5] (fun v wx => ∃ i, v = .int .i64 (i : Nat) ∧ i ≤ n2 ∧ Sp S w3 wx) (fun v _ => n2 - (intOf v).toNat)
          case atStart => exact ⟨0, rfl, Nat.zero_le _, Sp.refl _ _⟩
          case round =>
            obtain ⟨i, rfl, hi, hx⟩ := hrel
            have hx2 : Sp S w2 wr := HX1.out.trans hx
            have bx2 : wr.heap[wo.heap.size]? = some (.cells #[.string s, .slice p1 k c1, .slice p2 n2 c2] 41 (0, 0)) := (hx2.frm.block _ (Da.blk_lt HR.out.2.2.1) (fun h => by have := HS.out _ h; omega)).trans HR.out.2.2.1
            have z2 : wr.cell? ⟨wo.heap.size, 2, none⟩ = some (.slice p2 n2 c2) := cell_of bx2 rfl
            have z1 : wr.cell? ⟨wo.heap.size, 1, none⟩ = some (.slice p1 k c1) := cell_of bx2 rfl
            by_cases hil : i < n2
            · have r1 := HR.out.2.2.2.2.2.1.sp64 ((Sp.of_frm HR.out.2.1).trans hx2)
              rcases r1 with ⟨_, _, rfl⟩ | ⟨g1, o1, c1', ds, e, r2, r3, r4, r5, r6, r7⟩
              · omega
              · obtain ⟨rfl, rfl⟩ : p2 = some ⟨g1, o1, none⟩ ∧ c2 = c1' := by simpa using e
                obtain ⟨u, hu, _⟩ := r7 i hil
                have m1 : wr.cell? ⟨g1, o1 + i, none⟩ = some u := cell_of r3 hu
                have m2 : wr.frozen? ⟨g1, o1 + i, none⟩ = false := frozen_of r3
                have hkc : i < c2 := by omega
                have hset : Sp S wr (wr.setCell ⟨g1, o1 + i, none⟩ (.int .i64 77)) := Sp.set r3 r2 (fun e => absurd e (by decide)) (fun e => absurd e (by decide))
                have HX := Lib.hid (And.intro hx hset)
                clear e r2 r3 r4 r5 r6 r7 hu hset hx hx2 bx2
                go_wp2
                exact ⟨⟨i + 1, by go_num, by omega, HX.out.1.trans HX.out.2⟩, by simp [intOf]; omega⟩
            · obtain rfl : i = n2 := by omega
              have KGG := Lib.hid (KG.out wr _ _ k i (HR.out.2.2.2.2.1.sp8 ((Sp.of_frm HR.out.2.1).trans hx2)) (HR.out.2.2.2.2.2.1.sp64 ((Sp.of_frm HR.out.2.1).trans hx2)) a5 a7)
              have HX := Lib.hid hx2
              clear hx hx2 bx2
              go_wp2_with (first | (go_at_call 98; refine KGG.out.mono ?_; rintro e w4 ⟨rfl, hs4⟩; have bo : w4.heap[w.heap.size]? = some (.cells #[.slice (some ⟨g, 0, none⟩) n c] 36 (0, 0)) := ((((Sp.of_frm HR.out.2.1).trans HX.out).trans hs4).frm.block _ (Da.blk_lt HR.out.2.2.2.1) (fun h => by have := HS.out _ h; omega)).trans HR.out.2.2.2.1; have x4 : w4.cell? ⟨w.heap.size, 0, none⟩ = some (.slice (some ⟨g, 0, none⟩) n c) := cell_of bo rfl; obtain ⟨⟨cs4, k1, k2, k3⟩, kg⟩ := HR.out.2.2.2.2.2.2.sp (((Sp.of_frm HR.out.2.1).trans HX.out).trans hs4); obtain ⟨s4, _, _, _, _, k4, _⟩ := k3 j hlt; have y4 : w4.cell? ⟨g, j * 3, none⟩ = some (.string s4) := cell_of k1 k4; have y5 : w4.frozen? ⟨g, j * 3, none⟩ = false := frozen_of k1; have HS4 : Hid (∀ st, Sp S w1 (w4.setCell ⟨g, j * 3, none⟩ (.string st))) := Lib.hid (fun st => HR.out.1.trans ((((Sp.of_frm HR.out.2.1).trans HX.out).trans hs4).trans (Sp.set k1 kg (fun e => absurd e (by decide)) (fun _ => ⟨Nat.mul_mod_left _ _, st, rfl⟩)))); clear hs4 bo k1 k2 k3 kg k4))
              exact ⟨⟨j + 1, by go_num, by omega, HS4.out _⟩, by simp [intOf]; omega⟩
    · obtain rfl : j = n := by omega
      go_wp2
      refine bodyPost_end (results_none rfl _ _ _) rfl ⟨rfl, ?_⟩
      exact (Sp.of_frm H1.out.1).trans hs
end Go.Proofs.YtglhedahannjiaaGreatDoor.Dw

/- An image made by appends, one file behind the other. -/
namespace Go.Proofs.YtglhedahannjiaaGreatDoor.Dw
open Go.RowKit Go.ChangeMaps Go.Proofs.YtglhedahannjiaaGreatDoor.Mp Go.Proofs.YtglhedahannjiaaGreatDoor.Dm Go.Proofs.YtglhedahannjiaaGreatDoor.Da
open Go.Proofs.YtglhedahannjiaaGreatDoorW.PrintWords
set_option linter.unusedVariables false
set_option linter.unusedSimpArgs false
set_option linter.unusedSectionVars false
/-- A row that begins with what lay in block g's first cell. -/
structure Dot (W : World) (e : TypeId) (g p c n : Nat) (us : List Value) (w' : World) : Prop where
  zero : n = 0 → c = 1
  pos : 0 < n → W.heap.size ≤ p ∧ 1 + n ≤ c ∧ c ≤ maxLen ∧ ∃ cs : Array Value, w'.heap[p]? = some (Obj.cells cs e (0, 0)) ∧ cs.size = c ∧ ∀ (j : Nat) (u : Value), us[j]? = some u → cs[j]? = some u
  len : 1 + n ≤ c
  frm : Frm (fun _ => False) W w'
theorem step_dot {W : World} {ops : Array Oper} {o : Oper} {a : Act} {K : Act → World → Prop} {Q : Exit → Act → World → Prop} {E : Prop} (hgd : o.guard = none) (s x : Operand) (t e : TypeId)
    (ho : o.op = .call { callee := .builtin .append, args := #[s, x], argTypes := #[t, t] }) (ht : Tryz.prog.underlying t = some (.slice e)) {i : TypeInfo} (hi : Tryz.prog.info? e = some i) {z : Value} (hz : i.zero = some z) (bytes : Nat) (hsz : i.size = 1) (hby : i.bytes = bytes) (hzs : z.cells.size = 1)
    (g : Nat) (u0 : Value) (A : Option Addr) (n c : Nat) (xs : List Value) (hs : a.eval s = .slice (some ⟨g, 0, none⟩) 1 1) (hx : a.eval x = .slice A n c) (hg : W.cell? ⟨g, 0, none⟩ = some u0) (hl : xs.length = n)
    (hsrc : ∀ (j : Nat) (u : Value), xs[j]? = some u → ∃ ad, A = some ad ∧ W.cell? (ad.add j) = some u) (b1 : 1 + n ≤ maxLen) (b2 : (1 + n) * bytes ≤ 140737488355328)
    (h : ∀ p c' w', Dot W e g p c' n (u0 :: xs) w' → K (a.put o.dst (.slice (some ⟨p, 0, none⟩) (1 + n) c')) w') :
    if Region.wanted o (yielded ops a.tmps) = true then Oper.wp Tryz.prog o a W K Q else E := by
  have hw : Region.wanted o (yielded ops a.tmps) = true := by simp [Region.wanted, hgd]
  rw [if_pos hw]
  have key : ∃ p c' w', (Builtin.append_ #[t, t] o.type #[.slice (some ⟨g, 0, none⟩) 1 1, .slice A n c]).run Tryz.prog W = .ok (.slice (some ⟨p, 0, none⟩) (1 + n) c') w' ∧ Dot W e g p c' n (u0 :: xs) w' := by
    by_cases h0 : n = 0
    · subst h0
      have hx0 : xs = [] := List.eq_nil_of_length_eq_zero hl
      subst hx0
      have hsrc : Src Tryz.prog i.size t (.slice A 0 c) 0 [] W := by
        cases A with
        | none => exact Src.ofNil W ht c
        | some ad => exact Src.ofSlice W ht ad 0 c [] (by simp) (by simp) (by simp)
      exact ⟨g, 1, W, run_append_nothing W t t o.type e i ht hi (some ⟨g, 0, none⟩) 1 1 (Nat.le_refl _) (.slice A 0 c) hsrc, ⟨fun _ => rfl, fun h => absurd h (by omega), Nat.le_refl _, Frm.refl _ _⟩⟩
    · have hA : ∃ ad, A = some ad := by
        obtain ⟨ad, e, _⟩ := hsrc 0 _ (List.getElem?_eq_getElem (by omega))
        exact ⟨ad, e⟩
      obtain ⟨ad, rfl⟩ := hA
      obtain ⟨v', w', hrun, r1, r2⟩ := run_append_arg_grows (P := Tryz.prog) W t o.type e i z 1 bytes ht hi hz hsz hby hzs (by omega) ⟨g, 0, none⟩ 1 1 [u0] rfl (fun j u hu => by
        cases j with
        | zero => cases hu; rw [show (⟨g, 0, none⟩ : Addr).add 0 = ⟨g, 0, none⟩ from rfl]; exact hg
        | succ j => cases hu) ad n c xs (by omega) (fun j u hu => by obtain ⟨a', e, h⟩ := hsrc j u hu; cases e; exact h) (by omega) b1 b2
      obtain ⟨p, c', rfl, hlc, _, _⟩ := row_shape r1 (by omega)
      obtain ⟨_, ⟨h, _⟩ | ⟨p', c2, cur, e1, h2, h3, h4, h5, h6, h7⟩⟩ := r1
      · cases h
      · obtain ⟨rfl, rfl⟩ : p = p' ∧ c' = c2 := by simpa using e1
        refine ⟨p, c', w', hrun, ⟨fun h => absurd h h0, fun _ => ⟨h2, h4, h5, cur, h3, by omega, fun j u hu => ?_⟩, h4, ⟨r2.os, r2.tape, r2.output, r2.size, fun k hk _ => r2.block k hk (by simp)⟩⟩⟩
        have hj : j < 1 + n := by have := (List.getElem?_eq_some_iff.1 hu).1; simp at this; omega
        have e2 : (cur.toList.take ((1 + n) * 1))[j]? = some u := by rw [h7]; exact hu
        rw [List.getElem?_take, if_pos (by omega), Array.getElem?_toList] at e2
        exact e2
  obtain ⟨p, c', w', hrun, hd⟩ := key
  unfold Oper.wp
  simp [execOp, ho, resolve, invoke, builtin, hs, hx, hrun, Result.andThen]
  exact h p c' w' hd
/-- '[]byte("..")' of a constant: its row is marked behind its end. -/
theorem conv_mark {W : World} {g n c : Nat} {cs : Array Value} (hg : W.heap[g]? = some (.cells cs 5 (0, 0))) : ∃ W', (convert 22 22 (.slice (some ⟨g, 0, none⟩) n c)).run Tryz.prog W = .ok (.slice (some ⟨g, 0, none⟩) n c) W' ∧ Frm (fun k => k = g) W W' ∧ W'.heap.size = W.heap.size ∧ ∀ i, W'.cell? ⟨g, i, none⟩ = cs[i]? := by
  have hsh : W.shape? g = some (5, cs.size) := by unfold World.shape?; rw [hg]
  refine ⟨W.freeze ⟨g, cs.size, none⟩ 1, ?_, ?_, ?_, fun i => ?_⟩
  · simp [convert, run_underlying Tryz.underlying22, run_underlying Tryz.underlying5, markStringish, hsh]
  all_goals
    unfold World.freeze
    rw [if_neg (by decide)]
  · refine ⟨rfl, rfl, rfl, by simp, fun k hk hne => ?_⟩
    simp only [Array.getElem?_modify]
    rw [if_neg (fun e => hne e.symm)]
  · simp
  · simp [World.cell?, Array.getElem?_modify, hg]
theorem ImgAt.keep2 {w W : World} {base : Nat} {v : Value} {l : List Plain} {F : Nat → Prop} (h : ImgAt w base v l) (hf : Frm F w W) (hF : ∀ k, k < w.heap.size → F k → k < base) : ImgAt W base v l := by
  obtain ⟨A, c, e, h⟩ := h
  refine ⟨A, c, e, ?_⟩
  have h1 := Kd.R_bound h
  exact Kd.R_mono (Kd.R_step h1 (fun k hk hlt => hf.block k hlt (fun hF' => by have := hF k hlt hF'; have := hk.2.1; omega))) (fun _ hk => hk.1)
/-- An image that was answered may be written over. -/
theorem ImgAt.files {w : World} {base : Nat} {l : List Plain} {A : Option Addr} {c : Nat} (h : ImgAt w base (.agg #[.slice A l.length c]) l) (hd : ∀ p, p ∈ l → p.data.length ≤ 1099511627776 ∧ p.bad.length ≤ 1099511627776) {S : Nat → Prop} (hS : ∀ k, base ≤ k → k < w.heap.size → S k) (h0 : 0 < l.length) : ∃ g, A = some ⟨g, 0, none⟩ ∧ Files w S g l.length := by
  obtain ⟨A', c', e, hR⟩ := h
  obtain ⟨rfl, rfl⟩ : A = A' ∧ c = c' := by simpa using e
  obtain ⟨p0, hp0⟩ : ∃ p, l[0]? = some p := ⟨_, List.getElem?_eq_getElem h0⟩
  obtain ⟨g, c2, _, _, e2, _⟩ := img_file hR 0 p0 hp0
  obtain ⟨rfl, rfl⟩ : A = some ⟨g, 0, none⟩ ∧ c = c2 := by simpa using e2
  obtain ⟨_, inner, ho, hr⟩ := id hR
  obtain ⟨hlen, ⟨_, h3⟩ | ⟨g', cap, cur, e3, q1, q2, q3, q4, q5, q6⟩⟩ := ho
  · omega
  obtain ⟨rfl, rfl⟩ : g = g' ∧ c = cap := by simpa using e3
  have hz : fileK.sz = 3 := rfl
  rw [hz] at q5
  refine ⟨g, rfl, ⟨cur, q2, by omega, fun j hj => ?_⟩, hS g q1 (Da.blk_lt q2)⟩
  obtain ⟨p, hp⟩ : ∃ p, l[j]? = some p := ⟨_, List.getElem?_eq_getElem hj⟩
  obtain ⟨g2, c3, dv, bv, e4, _, k0, k1, k2, r1, r2⟩ := img_file hR j p hp
  obtain ⟨rfl, rfl⟩ : g = g2 ∧ c = c3 := by simpa using e4
  have hm := hd p (List.mem_of_getElem? hp)
  have cv : ∀ i u, w.cell? ⟨g, i, none⟩ = some u → cur[i]? = some u := fun i u h => by
    have : w.cell? ⟨g, i, none⟩ = cur[i]? := by simp [World.cell?, q2]
    rw [← this]; exact h
  exact ⟨_, _, dv, _, bv, cv _ _ k0, cv _ _ k1, cv _ _ k2, RowS.of_own r1 (fun u hu => by obtain ⟨x, _, rfl⟩ := List.mem_map.1 hu; exact ⟨x, rfl⟩) (fun k hk => hS k (own_low r1 hk).1 (own_low r1 hk).2), hm.1, RowS.of_own r2 (fun _ _ => trivial) (fun k hk => hS k (own_low r2 hk).1 (own_low r2 hk).2), hm.2⟩
/-- Rows of bytes and numbers are as they were. -/
def KeepN (W W' : World) : Prop := ∀ (k : Nat) (cs : Array Value) (e : TypeId), e = 5 ∨ e = 3 → W.heap[k]? = some (Obj.cells cs e (0, 0)) → W'.heap[k]? = some (Obj.cells cs e (0, 0))
theorem KeepN.of_frm {F : Nat → Prop} {W W' : World} (h : Frm F W W') (hF : ∀ k, F k → ∃ (cs : Array Value) (e : TypeId), W.heap[k]? = some (Obj.cells cs e (0, 0)) ∧ e ≠ 5 ∧ e ≠ 3) : KeepN W W' := fun k cs e he hk => by
  refine (h.block k (Da.blk_lt hk) (fun hf => ?_)).trans hk
  obtain ⟨cs', e', h1, h2, h3⟩ := hF k hf
  rw [hk] at h1
  obtain ⟨_, rfl⟩ : cs = cs' ∧ e = e' := by simpa using h1
  rcases he with he | he
  · exact h2 he
  · exact h3 he
theorem KeepN.trans {a b c : World} (h : KeepN a b) (k : KeepN b c) : KeepN a c := fun i cs e he hi => k i cs e he (h i cs e he hi)
/-- A slice behind the first cell of a row of the image's own. -/
def Tail1 (W : World) (base : Nat) (e : TypeId) (us : List Value) (v : Value) : Prop :=
  (∃ A : Option Addr, v = .slice A 0 0 ∧ us = []) ∨
  ∃ (b o c : Nat) (cs : Array Value), v = .slice (some ⟨b, o, none⟩) us.length c ∧ base ≤ b ∧ W.heap[b]? = some (Obj.cells cs e (0, 0)) ∧ us.length ≤ c ∧ c ≤ maxLen ∧ o + c ≤ cs.size ∧ ∀ (j : Nat) (u : Value), us[j]? = some u → cs[o + j]? = some u
theorem Tail1.keep {W W' : World} {base : Nat} {e : TypeId} {us : List Value} {v : Value} (h : Tail1 W base e us v) (he : e = 5 ∨ e = 3) (hk : KeepN W W') : Tail1 W' base e us v := by
  rcases h with h | ⟨b, o, c, cs, h1, h2, h3, h4⟩
  · exact .inl h
  · exact .inr ⟨b, o, c, cs, h1, h2, hk _ _ _ he h3, h4⟩
theorem Dot.tail {W : World} {e : TypeId} {g p c n : Nat} {u0 : Value} {xs : List Value} {w' W' : World} {base : Nat} {A : Option Addr} (h : Dot W e g p c n (u0 :: xs) w') (hA : (if c = 1 then some (⟨p, 0, none⟩ : Addr) else some ⟨p, 1, none⟩) = A) (hl : xs.length = n) (hW : base ≤ W.heap.size) (hf : Frm (fun _ => False) w' W') : Tail1 W' base e xs (.slice A n (c - 1)) := by
  by_cases h0 : n = 0
  · subst h0
    have := h.zero rfl
    subst this
    exact .inl ⟨A, rfl, List.eq_nil_of_length_eq_zero hl⟩
  · obtain ⟨h1, h2, h3, cs, h4, h5, h6⟩ := h.pos (by omega)
    rw [if_neg (by omega)] at hA
    subst hA
    refine .inr ⟨p, 1, c - 1, cs, by rw [hl], by omega, (hf.block _ (Da.blk_lt h4) id).trans h4, by omega, by omega, by omega, fun j u hu => ?_⟩
    rw [Nat.add_comm]; exact h6 (j + 1) u (by simpa using hu)
theorem Tail1.row {W : World} {base : Nat} {e : TypeId} {us : List Value} {v : Value} (h : Tail1 W base e us v) {P : Value → Prop} (hP : ∀ u, u ∈ us → P u) {S : Nat → Prop} (hS : ∀ k, base ≤ k → k < W.heap.size → S k) : RowS e P W S us.length v := by
  rcases h with ⟨A, rfl, rfl⟩ | ⟨b, o, c, cs, rfl, h2, h3, h4, h5, h6, h7⟩
  · exact .inl ⟨A, rfl, rfl⟩
  exact .inr ⟨b, o, c, cs, rfl, hS b h2 (Da.blk_lt h3), h3, h4, h5, h6, fun i hi => ⟨_, h7 i _ (List.getElem?_eq_getElem hi), hP _ (List.getElem_mem hi)⟩⟩
def MineRow (W : World) (base : Nat) (p : Plain) (c : List Value) : Prop := ∃ dv bv, c = [.string p.name, dv, bv] ∧ Tail1 W base 5 (u8s p.data) dv ∧ Tail1 W base 3 (i64s p.bad) bv
/-- The first files of an image, made anew. -/
structure Mine (W : World) (base : Nat) (l : List Plain) (iv : Value) : Prop where
  row : ∃ inner, W.ownsRow base 41 3 iv l.length inner ∧ Reps (MineRow W base) 3 l inner
theorem Mine.nil (W : World) (base : Nat) : Mine W base [] (.slice none 0 0) := ⟨[], World.ownsRow_nil W base 41 3, Reps.none _ _⟩
theorem Mine.rd {W : World} {base : Nat} {l : List Plain} {iv : Value} (h : Mine W base l iv) : ∃ A c, iv = .slice A l.length c ∧ l.length ≤ c ∧ ImgRd W (.agg #[.slice A l.length c]) l := by
  obtain ⟨inner, h1, h2⟩ := h.row
  obtain ⟨A, c, rfl, h3⟩ := own_reads_row h1 h2 rfl
  have hc : l.length ≤ c := own_le h1
  refine ⟨A, c, rfl, hc, A, c, rfl, hc, ?_⟩
  have one : ∀ {e : TypeId} {k : IntKind} {xs : List Int} {v : Value}, Tail1 W base e (xs.map (Value.int k)) v → ∃ A c, [v] = [Value.slice A xs.length c] ∧ xs.length ≤ c ∧ (Kd.int k).C W A xs.length xs := by
    intro e k xs v ht
    rcases ht with ⟨A, rfl, hx0⟩ | ⟨b, o, c, cs, rfl, t2, t3, t4, t5, t6, t7⟩
    · have hx0 : xs = [] := by simpa using hx0
      subst hx0
      exact ⟨A, 0, rfl, Nat.le_refl _, rfl, Nat.zero_le _, fun h => absurd h (Nat.lt_irrefl 0)⟩
    rw [List.length_map] at t4 ⊢
    have hx : xs.length ≤ 9223372036854775807 := by have : maxLen = 9223372036854775807 := by decide
                                                    omega
    refine ⟨_, c, rfl, t4, rfl, hx, fun _ => ⟨_, rfl, fun j x hxj => ⟨[.int k x], rfl, rfl, fun i u hu => ?_⟩⟩⟩
    cases i with
    | succ i => cases hu
    | zero =>
      cases hu
      have : (⟨b, o, none⟩ : Addr).add (j * (Kd.int k).sz + 0) = ⟨b, o + j, none⟩ := by rw [add_off]; show (⟨b, o + (j * 1 + 0), none⟩ : Addr) = _; simp
      rw [this]
      exact cell_of t3 (t7 j _ (by rw [List.getElem?_map, hxj]; rfl))
  refine ReadsRow.imp_ h3 (Below.refl _ _) (fun p c hr => ?_)
  obtain ⟨dv, bv, rfl, q1, q2⟩ := hr
  exact ⟨[.string p.name], [dv, bv], rfl, rfl, [dv], [bv], rfl, one q1, one q2⟩
theorem Mine.files {W : World} {base : Nat} {l : List Plain} {A : Option Addr} {c : Nat} (h : Mine W base l (.slice A l.length c)) (hd : ∀ p, p ∈ l → p.data.length ≤ 1099511627776 ∧ p.bad.length ≤ 1099511627776) {S : Nat → Prop} (hS : ∀ k, base ≤ k → k < W.heap.size → S k) (h0 : 0 < l.length) : ∃ g, A = some ⟨g, 0, none⟩ ∧ Files W S g l.length := by
  obtain ⟨inner, h1, h2⟩ := h.row
  obtain ⟨hlen, ⟨_, h3⟩ | ⟨g, cap, cur, e, q1, q2, q3, q4, q5, q6⟩⟩ := h1
  · omega
  obtain ⟨rfl, rfl⟩ : A = some ⟨g, 0, none⟩ ∧ c = cap := by simpa using e
  refine ⟨g, rfl, ⟨cur, q2, by omega, fun j hj => ?_⟩, hS g q1 (Da.blk_lt q2)⟩
  obtain ⟨dv, bv, e1, t1, t2⟩ := h2.2 j l[j] (List.getElem?_eq_getElem hj)
  have hm := hd l[j] (List.getElem_mem hj)
  have hk : ∀ i u, ([Value.string l[j].name, dv, bv] : List Value)[i]? = some u → cur[j * 3 + i]? = some u := by
    intro i u hu
    rw [← e1, List.getElem?_take] at hu
    split at hu
    · rename_i hi
      rw [List.getElem?_drop, ← q6, List.getElem?_take, if_pos (by omega), Array.getElem?_toList] at hu
      exact hu
    · cases hu
  have r1 := t1.row (P := Is8) (fun u hu => by obtain ⟨x, _, rfl⟩ := List.mem_map.1 hu; exact ⟨x, rfl⟩) hS
  have r2 := t2.row (P := fun _ => True) (fun u hu => trivial) hS
  exact ⟨_, _, dv, _, bv, hk 0 _ rfl, hk 1 _ rfl, hk 2 _ rfl, r1, by simpa [u8s] using hm.1, r2, by simpa [i64s] using hm.2⟩
theorem Mine.snoc {W W' : World} {base : Nat} {l : List Plain} {iv' : Value} {inner : List Value} {p : Plain} {dv bv : Value} (hr : Reps (MineRow W base) 3 l inner) (hk : KeepN W W') (h : W'.ownsRow base 41 3 iv' (l.length + 1) (inner ++ [.string p.name, dv, bv])) (h1 : Tail1 W' base 5 (u8s p.data) dv) (h2 : Tail1 W' base 3 (i64s p.bad) bv) : Mine W' base (l ++ [p]) iv' := by
  refine ⟨inner ++ [.string p.name, dv, bv], by simpa using h, (hr.imp_ (fun q c hq => ?_)).snoc ⟨dv, bv, rfl, h1, h2⟩ rfl⟩
  obtain ⟨d, b, rfl, q1, q2⟩ := hq
  exact ⟨d, b, rfl, q1.keep (.inl rfl) hk, q2.keep (.inr rfl) hk⟩
end Go.Proofs.YtglhedahannjiaaGreatDoor.Dw

/- The pure disk: one file made and written. -/
namespace Go.Proofs.YtglhedahannjiaaGreatDoor.Dm
set_option linter.unusedVariables false
theorem quiet_new : Quiet Disk.new := ⟨rfl, rfl, rfl⟩
theorem quiet_load (l : List Plain) : Quiet (Disk.load l) := ⟨rfl, rfl, rfl⟩
theorem Quiet.tick {D : Disk} (h : Quiet D) : Quiet D.tick := ⟨h.off, h.fails, h.cut⟩
theorem find_put_self (l : List (Name × Nat)) (n : Name) (i : Nat) : find (put l n i) n = some i := by
  have h : (erase l n).find? (fun p => decide (p.1 = n)) = none := List.find?_eq_none.2 fun p hp => by
    have := (List.mem_filter.1 hp).2
    simpa using this
  unfold find put
  rw [List.find?_append, h]
  simp
/-- A file is made, or there is one: behind it there is one. -/
theorem create_there {D : Disk} (h : Quiet D) {n : Name} (hn : good n = true) : Quiet (D.create n).2 ∧ ∃ i, find (D.create n).2.now n = some i := by
  have hg : ¬ good n = false := by rw [hn]; simp
  by_cases hf : (find D.now n).isSome = true
  · have e : D.create n = (eThere, D.tick) := by
      unfold Disk.create
      rw [h.run, show D.refuseCreate n = eThere by unfold Disk.refuseCreate; rw [if_neg hg, if_pos hf], if_neg (by decide)]
    rw [e]
    exact ⟨h.tick, Option.isSome_iff_exists.1 hf⟩
  · have e : D.create n = (0, Disk.doCreate n D.tick) := by
      unfold Disk.create
      rw [h.run, show D.refuseCreate n = 0 by unfold Disk.refuseCreate; rw [if_neg hg, if_neg hf], if_pos rfl]
    rw [e]
    exact ⟨⟨h.off, h.fails, h.cut⟩, _, find_put_self _ _ _⟩
/-- Bytes behind a file that is there. -/
theorem append_there {D : Disk} (hi : Inv D) (h : Quiet D) {n : Name} {i : Nat} (hf : find D.now n = some i) (data : List Int) : (D.append n data).1 = 0 ∧ Quiet (D.append n data).2 ∧ (D.read n).1 = 0 ∧ ((D.append n data).2.read n).1 = 0 ∧ ((D.append n data).2.read n).2.1 = (D.read n).2.1 ++ data := by
  have e : D.append n data = (0, Disk.onFile n (FileS.add data) D.tick) := by
    unfold Disk.append
    rw [h.run, if_pos (by unfold Disk.gone; rw [hf]; rfl)]
  have e2 : Disk.onFile n (FileS.add data) D.tick = D.tick.modify i (FileS.add data) := by unfold Disk.onFile; rw [tick_now, hf]
  have hlt : i < D.files.length := hi.now.lt (n, i) ((find_iff hi.now.names n i).1 hf)
  have hfile : (D.tick.modify i (FileS.add data)).file i = FileS.add data (D.file i) := by rw [file_modify D.tick i i hlt, if_pos rfl]; rfl
  have r1 : D.read n = (0, (D.file i).seen, numbers (D.file i).badSeen (sectors (D.file i).seen.length)) := by unfold Disk.read; rw [if_neg (by rw [h.off]; simp), hf]
  have r2 : (D.tick.modify i (FileS.add data)).read n = (0, (FileS.add data (D.file i)).seen, numbers (FileS.add data (D.file i)).badSeen (sectors (FileS.add data (D.file i)).seen.length)) := by
    unfold Disk.read
    rw [if_neg (by show ¬ D.off = true; rw [h.off]; simp)]
    have : find (D.tick.modify i (FileS.add data)).now n = some i := hf
    rw [this, ← hfile]
  rw [e, e2]
  refine ⟨rfl, ⟨h.off, h.fails, h.cut⟩, by rw [r1], by rw [r2], ?_⟩
  rw [r1, r2]
  show (FileS.add data (D.file i)).seen = (D.file i).seen ++ data
  unfold FileS.add
  split
  · rename_i h0; rw [h0]; simp
  · rfl
theorem read_len {n m : Nat} {D : Disk} (h : Sz n m D) (nm : Name) : (D.read nm).2.1.length ≤ m := by
  unfold Disk.read
  split
  · exact Nat.zero_le _
  · split
    · exact Nat.zero_le _
    · rename_i i _
      unfold Disk.file
      cases hf : D.files[i]? with
      | none => exact Nat.zero_le _
      | some f => exact h.len f (List.mem_of_getElem? hf)
theorem numbers_len (b : Nat → Bool) (m : Nat) : (numbers b m).length ≤ m := by
  unfold numbers
  rw [List.length_map]
  exact Nat.le_trans (List.length_filter_le _ _) (by simp)
theorem seen_bad {D : Disk} (p : Plain) (hp : p ∈ D.seenImg) : p.bad.length ≤ sectors p.data.length := by
  unfold Disk.seenImg at hp
  split at hp
  · cases hp
  · obtain ⟨q, _, rfl⟩ := List.mem_map.1 hp
    exact numbers_len _ _
theorem crash_bad {D : Disk} {fs : List Int} {k : Int} (p : Plain) (hp : p ∈ D.crash fs k) : p.bad.length ≤ sectors p.data.length := by
  unfold Disk.crash at hp
  obtain ⟨q, _, rfl⟩ := List.mem_map.1 hp
  exact numbers_len _ _
end Go.Proofs.YtglhedahannjiaaGreatDoor.Dm
