/- A part of the proof of segmentMemoryUpto_holds: Mp, Mo, Da. No condition. -/
import Derived.WalkKit
import Derived.Maps.Own
import Derived.Maps.Range
import Derived.Maps.OwnOps
import Derived.Maps.RangeWalk
import Derived.Test.YtkmmlfphcfcbgaaGreatDoorProg
import Derived.Deep.QuietTactic
import Derived.BigQuiet
import Derived.Lib.Hide
import Derived.Deep.RegionHeld3
import Derived.Test.YtkmmlfphcfcbgaaGreatDoorC01

/- Maps whose keys are whole numbers or strings, entry by entry: what each operation on them does. -/
namespace Go.Proofs.YtkmmlfphcfcbgaaGreatDoor.Mp
open Go.RowKit Go.ChangeMaps
set_option linter.unusedVariables false
set_option linter.unusedSimpArgs false
set_option linter.unusedSectionVars false
/-- How keys of type k lie in memory. -/
structure KeyK (P : Program) (k : TypeId) {α : Type} [DecidableEq α] (enc : α → Value) : Prop where
  check : ∀ b n x (w : World), (Instr.checkKey b (n + 1) k (enc x)).run P w = .ok () w
  same : ∃ d, P.underlying k = some d ∧ ∀ x y, Instr.sameNow d (enc x) (enc y) = some (decide (x = y))
  bits : ∀ n x, Instr.sameBits n (enc x) (enc x) = true
theorem keyK_int {P : Program} {k : TypeId} {q : IntKind} (hk : P.underlying k = some (.int q)) : KeyK P k (Value.int q) where
  check b n x w := by simp [Instr.checkKey, run_underlying hk]
  same := ⟨_, hk, fun x y => by
    simp only [Instr.sameNow, if_true, Option.some.injEq]
    rw [Bool.eq_iff_iff]; simp⟩
  bits n x := by cases n <;> simp [Instr.sameBits]
theorem keyK_str {P : Program} {k : TypeId} (hk : P.underlying k = some .string) : KeyK P k Value.string where
  check b n x w := by simp [Instr.checkKey, run_underlying hk]
  same := ⟨_, hk, fun x y => by
    simp only [Instr.sameNow, Option.some.injEq]
    rw [Bool.eq_iff_iff, MapKept.bytes_beq]; simp⟩
  bits n x := by cases n <;> simp only [Instr.sameBits] <;> exact (MapKept.bytes_beq x x).2 rfl
section pure
variable {α : Type} [DecidableEq α]
/-- An association list as a map in memory holds it: the first entry of a key counts; a new key goes behind. -/
def mlook (l : List (α × Value)) (x : α) : Option Value := (l.find? fun p => decide (p.1 = x)).map (·.2)
def setL (l : List (α × Value)) (x : α) (v : Value) : List (α × Value) :=
  match l.findIdx? fun p => decide (p.1 = x) with
  | some i => l.modify i fun p => (p.1, v)
  | none => l ++ [(x, v)]
def delL (l : List (α × Value)) (x : α) : List (α × Value) :=
  match l.findIdx? fun p => decide (p.1 = x) with
  | some i => l.eraseIdx i
  | none => l
end pure
def MapOK (es : Array MapEntry) (clock : Nat) : Prop := (∀ e ∈ es.toList, e.born < clock) ∧ es.toList.Pairwise fun a b => a.born < b.born
/-- Block m is a map with these entries, in this order. -/
def MapAt {α : Type} (enc : α → Value) (w : World) (m : Nat) (l : List (α × Value)) : Prop :=
  ∃ es clock, w.heap[m]? = some (.map es clock) ∧ MapOK es clock ∧ es.toList.map (fun e => (e.key, e.val)) = l.map fun p => (enc p.1, p.2)
section
variable {α : Type} [DecidableEq α] {enc : α → Value} {P : Program} {k : TypeId} {w : World} {m : Nat} {l : List (α × Value)}
theorem MapAt.of_block {w' : World} (h : MapAt enc w m l) (hb : w'.heap[m]? = w.heap[m]?) : MapAt enc w' m l := by
  obtain ⟨es, c, h1, h2⟩ := h
  exact ⟨es, c, hb.trans h1, h2⟩
theorem MapAt.lt (h : MapAt enc w m l) : m < w.heap.size := by
  obtain ⟨es, c, h1, h2⟩ := h
  exact (Array.getElem?_eq_some_iff.1 h1).1
theorem MapAt.made (w : World) : MapAt enc (w.alloc (.map #[] 0)) w.heap.size ([] : List (α × Value)) :=
  ⟨#[], 0, (MapKept.heap_alloc w _).1, ⟨by simp, by simp⟩, by simp⟩
theorem findNow_eq (K : KeyK P k enc) {d : TypeDesc} (hd : P.underlying k = some d) (x : α) : ∀ (es : List MapEntry) (l : List (α × Value)) (i : Nat), es.map (fun e => (e.key, e.val)) = l.map (fun p => (enc p.1, p.2)) →
    Instr.findNow d (enc x) es i = some ((l.findIdx? fun p => decide (p.1 = x)).bind fun j => (l[j]?).map fun p => (i + j, p.2))
  | [], [], i, _ => by simp [Instr.findNow]
  | [], _ :: _, i, h => by simp at h
  | _ :: _, [], i, h => by simp at h
  | e :: es, p :: l, i, h => by
    simp only [List.map_cons, List.cons.injEq, Prod.mk.injEq] at h
    obtain ⟨⟨hk, hv⟩, ht⟩ := h
    obtain ⟨d', hd', hs⟩ := K.same
    obtain rfl : d = d' := by rw [hd] at hd'; exact Option.some.inj hd'
    have ih := findNow_eq K hd x es l (i + 1) ht
    simp only [Instr.findNow, hk, hs]
    by_cases hx : x = p.1
    · subst hx
      simp [List.findIdx?_cons, hv]
    · have hx' : ¬ p.1 = x := fun e => hx e.symm
      simp only [hx, decide_false, ih, List.findIdx?_cons, hx']
      cases hj : l.findIdx? fun p => decide (p.1 = x) with
      | none => simp
      | some j => simp [Nat.add_comm, Nat.add_left_comm]
theorem findKey_run (K : KeyK P k enc) (x : α) {es : List MapEntry} {l : List (α × Value)} (h : es.map (fun e => (e.key, e.val)) = l.map (fun p => (enc p.1, p.2))) (w : World) :
    (Instr.findKey k (enc x) es).run P w = .ok ((l.findIdx? fun p => decide (p.1 = x)).bind fun j => (l[j]?).map fun p => (j, p.2)) w := by
  obtain ⟨d, hd, hs⟩ := K.same
  have := findNow_eq K hd x es l 0 h
  simp only [Nat.zero_add] at this
  simp [Instr.findKey, run_underlying hd, this]
theorem mlook_idx (l : List (α × Value)) (x : α) : mlook l x = (l.findIdx? fun p => decide (p.1 = x)).bind fun j => (l[j]?).map (·.2) := by
  unfold mlook
  induction l with
  | nil => simp
  | cons p l ih =>
    simp only [List.find?_cons, List.findIdx?_cons]
    by_cases h : p.1 = x
    · simp [h]
    · simp only [h, decide_false, ih]
      cases l.findIdx? fun p => decide (p.1 = x) <;> simp
/-- v, ok := m[x] -/
theorem MapAt.lookup {t e : TypeId} (h : MapAt enc w m l) (K : KeyK P k enc) (ht : P.underlying t = some (.map k e)) {z : Value} (hz : (zeroValue e).run P w = .ok z w) (x : α) (ok : Bool) :
    (Instr.lookup t (.map (some m)) (enc x) ok).run P w = .ok (if ok then .tuple #[(mlook l x).getD z, .bool (mlook l x).isSome] else (mlook l x).getD z) w := by
  obtain ⟨es, clock, hb, hok, hl⟩ := h
  have hf := findKey_run (es := es.toList) K x hl w
  have hg : (getObj m).run P w = .ok (.map es clock) w := by simp [getObj, Sem.run, hb]
  simp only [Instr.lookup, Sem.run_bind, run_underlying ht, Result.andThen_ok, hg, Sem.run_pure, K.check, hf, mlook_idx]
  cases hj : l.findIdx? fun p => decide (p.1 = x) with
  | none => cases ok <;> simp [hz]
  | some j =>
    have hjl : j < l.length := (List.findIdx?_eq_some_iff_getElem.1 hj).1
    simp only [Option.bind_some, List.getElem?_eq_getElem hjl, Option.map_some]
    cases ok <;> simp
theorem heap_set_only {o o' : Obj} (hb : w.heap[m]? = some o) : w.grownBy (setBlock w m o') (some m) ∧ (setBlock w m o').heap.size = w.heap.size ∧ (setBlock w m o').heap[m]? = some o' := by
  have hm := (Array.getElem?_eq_some_iff.1 hb).1
  refine ⟨⟨rfl, rfl, rfl, by simp [setBlock], fun i hi hne => ?_⟩, by simp [setBlock], by simp [setBlock, hm]⟩
  simp only [setBlock]
  rw [Array.getElem?_setIfInBounds_ne]
  rintro rfl
  exact hne rfl
/-- m[x] = v -/
theorem MapAt.update {t e : TypeId} (h : MapAt enc w m l) (K : KeyK P k enc) (ht : P.underlying t = some (.map k e)) (x : α) (v : Value) :
    ∃ w', (Instr.mapUpdate t (.map (some m)) (enc x) v).run P w = .ok () w' ∧ MapAt enc w' m (setL l x v) ∧ w.grownBy w' (some m) ∧ w'.heap.size = w.heap.size := by
  obtain ⟨es, clock, hb, hok, hl⟩ := h
  have hf := findKey_run (es := es.toList) K x hl w
  have hg : (getObj m).run P w = .ok (.map es clock) w := by simp [getObj, Sem.run, hb]
  have hs : ∀ o, (setObj m o).run P w = .ok () (setBlock w m o) := by intro o; simp [setObj, Sem.run, hb, setBlock]
  have hlen : es.size = l.length := by have := congrArg List.length hl; simpa using this
  have hc : (Instr.checkKey false 10000 k (enc x)).run P w = .ok () w := K.check _ _ _ _
  simp only [Instr.mapUpdate, Sem.run_bind, run_underlying ht, Result.andThen_ok, hg, hc, hf]
  cases hj : l.findIdx? fun p => decide (p.1 = x) with
  | none =>
    obtain ⟨h1, h2, h3⟩ := heap_set_only (o' := .map (es.push { key := enc x, val := v, born := clock }) (clock + 1)) hb
    refine ⟨_, by simp [hs], ⟨_, _, h3, ⟨?_, ?_⟩, ?_⟩, h1, h2⟩
    · intro e he
      simp only [Array.toList_push, List.mem_append, List.mem_singleton] at he
      rcases he with he | rfl
      · have := hok.1 e he; omega
      · simp
    · simp only [Array.toList_push, List.pairwise_append, List.pairwise_cons, List.not_mem_nil, false_imp_iff, implies_true, List.Pairwise.nil, and_self, List.mem_singleton, forall_eq, true_and]
      exact ⟨hok.2, hok.1⟩
    · simp [setL, hj, hl]
  | some j =>
    have hjl : j < l.length := (List.findIdx?_eq_some_iff_getElem.1 hj).1
    have hje : j < es.size := by omega
    have hkey : (es[j]).key = enc x := by
      have e1 : (es.toList.map fun e => (e.key, e.val))[j]? = (l.map fun p => (enc p.1, p.2))[j]? := by rw [hl]
      simp only [List.getElem?_map, Array.getElem?_toList, Array.getElem?_eq_getElem hje, List.getElem?_eq_getElem hjl, Option.map_some, Option.some.injEq, Prod.mk.injEq] at e1
      have e2 := (List.findIdx?_eq_some_iff_getElem.1 hj).2.1
      simp only [decide_eq_true_eq] at e2
      rw [e1.1, e2]
    simp only [Option.bind_some, List.getElem?_eq_getElem hjl, Option.map_some, Array.getElem?_eq_getElem hje, Option.getD_some, hkey, Instr.keyThatStays, K.bits, if_true]
    obtain ⟨h1, h2, h3⟩ := heap_set_only (o' := .map (es.modify j fun e => { e with key := enc x, val := v }) clock) hb
    refine ⟨_, by simp [hs], ⟨_, _, h3, ⟨?_, ?_⟩, ?_⟩, h1, h2⟩
    · intro e he
      obtain ⟨i, hi, rfl⟩ := List.getElem_of_mem he
      simp only [Array.toList_modify, List.getElem_modify]
      have hi' : i < es.toList.length := by simpa using hi
      split
      · exact hok.1 (es.toList[i]) (List.getElem_mem hi')
      · exact hok.1 (es.toList[i]) (List.getElem_mem hi')
    · have hb' : ((es.modify j fun e => { e with key := enc x, val := v }).toList.map (·.born)) = es.toList.map (·.born) := by
        apply List.ext_getElem?
        intro i
        simp only [List.getElem?_map, Array.toList_modify, List.getElem?_modify]
        cases es.toList[i]? with
        | none => simp
        | some e => simp only [Option.map_some]; split <;> rfl
      have h4 := hok.2
      rw [← List.pairwise_map (f := MapEntry.born) (R := (· < ·))] at h4 ⊢
      rw [hb']; exact h4
    · simp only [setL, hj]
      apply List.ext_getElem?
      intro i
      have e1 : (es.toList.map fun e => (e.key, e.val))[i]? = (l.map fun p => (enc p.1, p.2))[i]? := by rw [hl]
      simp only [List.getElem?_map, Array.toList_modify, List.getElem?_modify] at e1 ⊢
      have e2 := (List.findIdx?_eq_some_iff_getElem.1 hj).2.1
      simp only [decide_eq_true_eq] at e2
      by_cases hij : j = i
      · subst hij
        simp [hje, hjl, e2]
      · simp only [hij, if_false]
        simpa using e1
/-- delete(m, x) -/
theorem MapAt.delete {t e t2 : TypeId} (h : MapAt enc w m l) (K : KeyK P k enc) (ht : P.underlying t = some (.map k e)) (x : α) (ty : TypeId) :
    ∃ w', (Builtin.delete_ #[t, t2] ty #[.map (some m), enc x]).run P w = .ok (.tuple #[]) w' ∧ MapAt enc w' m (delL l x) ∧ w.grownBy w' (some m) ∧ w'.heap.size = w.heap.size := by
  obtain ⟨es, clock, hb, hok, hl⟩ := h
  have hf := findKey_run (es := es.toList) K x hl w
  have hg : (getObj m).run P w = .ok (.map es clock) w := by simp [getObj, Sem.run, hb]
  have hs : ∀ o, (setObj m o).run P w = .ok () (setBlock w m o) := by intro o; simp [setObj, Sem.run, hb, setBlock]
  have hlen : es.size = l.length := by have := congrArg List.length hl; simpa using this
  have hc : ∀ b, (Instr.checkKey b 10000 k (enc x)).run P w = .ok () w := fun _ => K.check _ _ _ _
  have ha1 : (#[t, t2] : Array TypeId)[0]? = some t := rfl
  have ha2 : (#[Value.map (some m), enc x] : Array Value)[0]? = some (.map (some m)) := rfl
  have ha3 : (#[Value.map (some m), enc x] : Array Value)[1]? = some (enc x) := rfl
  simp only [Builtin.delete_, ha1, ha2, ha3, Sem.run_bind, run_underlying ht, Result.andThen_ok, hg, hc, hf]
  cases hj : l.findIdx? fun p => decide (p.1 = x) with
  | none =>
    obtain ⟨h1, h2, h3⟩ := heap_set_only (o' := .map es clock) hb
    exact ⟨_, by simp [hs], ⟨_, _, h3, hok, by simp [delL, hj, hl]⟩, h1, h2⟩
  | some j =>
    have hjl : j < l.length := (List.findIdx?_eq_some_iff_getElem.1 hj).1
    have hje : j < es.size := by omega
    obtain ⟨h1, h2, h3⟩ := heap_set_only (o' := .map (es.eraseIdxIfInBounds j) clock) hb
    have hel : (es.eraseIdxIfInBounds j).toList = es.toList.eraseIdx j := by simp [Array.eraseIdxIfInBounds, hje]
    refine ⟨_, by simp [hs, List.getElem?_eq_getElem hjl], ⟨_, _, h3, ⟨?_, ?_⟩, ?_⟩, h1, h2⟩
    · rw [hel]; exact fun e he => hok.1 e (List.mem_of_mem_eraseIdx he)
    · rw [hel]; exact List.Pairwise.sublist (List.eraseIdx_sublist _ _) hok.2
    · rw [hel, map_eraseIdx, hl]; simp only [delL, hj]; rw [← map_eraseIdx]
/-- len(m) -/
theorem MapAt.len {t e : TypeId} (h : MapAt enc w m l) (ht : P.underlying t = some (.map k e)) (ty : TypeId) :
    (Builtin.len_ #[t] ty #[.map (some m)]).run P w = .ok (.int .i64 l.length) w := by
  obtain ⟨es, clock, hb, hok, hl⟩ := h
  have hg : (getObj m).run P w = .ok (.map es clock) w := by simp [getObj, Sem.run, hb]
  have hlen : es.size = l.length := by have := congrArg List.length hl; simpa using this
  have ha1 : (#[t] : Array TypeId)[0]? = some t := rfl
  have ha2 : (#[Value.map (some m)] : Array Value)[0]? = some (.map (some m)) := rfl
  simp only [Builtin.len_, ha1, ha2, Sem.run_bind, run_underlying ht, Result.andThen_ok, hg]
  simp [goInt, hlen]
/-- clear(m) -/
theorem MapAt.clear {t e : TypeId} (h : MapAt enc w m l) (ht : P.underlying t = some (.map k e)) (ty : TypeId) :
    ∃ w', (Builtin.clear_ #[t] ty #[.map (some m)]).run P w = .ok (.tuple #[]) w' ∧ MapAt enc w' m ([] : List (α × Value)) ∧ w.grownBy w' (some m) ∧ w'.heap.size = w.heap.size := by
  obtain ⟨es, clock, hb, hok, hl⟩ := h
  have hg : (getObj m).run P w = .ok (.map es clock) w := by simp [getObj, Sem.run, hb]
  have hs : ∀ o, (setObj m o).run P w = .ok () (setBlock w m o) := by intro o; simp [setObj, Sem.run, hb, setBlock]
  have ha1 : (#[t] : Array TypeId)[0]? = some t := rfl
  have ha2 : (#[Value.map (some m)] : Array Value)[0]? = some (.map (some m)) := rfl
  obtain ⟨h1, h2, h3⟩ := heap_set_only (o' := .map #[] clock) hb
  refine ⟨_, ?_, ⟨_, _, h3, ⟨by simp, by simp⟩, by simp⟩, h1, h2⟩
  simp only [Builtin.clear_, ha1, ha2, Sem.run_bind, run_underlying ht, Result.andThen_ok, hg]
  simp [hs]
/-! ### Ranging -/
/-- An iterator over the map in block m (entries l), of which these are to come. -/
def IterAt (enc : α → Value) (w : World) (it m : Nat) (l todo : List (α × Value)) : Prop :=
  ∃ es clock seen, w.heap[m]? = some (.map es clock) ∧ w.heap[it]? = some (.mapIter (some m) clock seen clock) ∧ MapOK es clock ∧ es.toList.map (fun e => (e.key, e.val)) = l.map (fun p => (enc p.1, p.2)) ∧
    (es.toList.filter fun e => !seen.contains e.born).map (fun e => (e.key, e.val)) = todo.map (fun p => (enc p.1, p.2))
theorem IterAt.map {it : Nat} {todo : List (α × Value)} (h : IterAt enc w it m l todo) : MapAt enc w m l := by
  obtain ⟨es, c, s, h1, _, h2, h3, _⟩ := h
  exact ⟨es, c, h1, h2, h3⟩
theorem IterAt.of_block {w' : World} {it : Nat} {todo : List (α × Value)} (h : IterAt enc w it m l todo) (h1 : w'.heap[m]? = w.heap[m]?) (h2 : w'.heap[it]? = w.heap[it]?) : IterAt enc w' it m l todo := by
  obtain ⟨es, c, s, a1, a2, a3⟩ := h
  exact ⟨es, c, s, h1.trans a1, h2.trans a2, a3⟩
theorem MapAt.range {t e : TypeId} (h : MapAt enc w m l) (ht : P.underlying t = some (.map k e)) :
    ∃ w', (Instr.range t (.map (some m))).run P w = .ok (.pointer (some ⟨w.heap.size, 0, none⟩)) w' ∧ IterAt enc w' w.heap.size m l l ∧ w.grownBy w' none ∧ w'.heap.size = w.heap.size + 1 := by
  have hlt := h.lt
  obtain ⟨es, clock, hb, hok, hl⟩ := h
  have hg : (getObj m).run P w = .ok (.map es clock) w := by simp [getObj, Sem.run, hb]
  refine ⟨w.alloc (.mapIter (some m) clock #[] clock), ?_, ⟨es, clock, #[], ?_, ?_, hok, hl, ?_⟩, World.grownBy_alloc _ _ _, by simp⟩
  · simp only [Instr.range, Sem.run_bind, run_underlying ht, Result.andThen_ok, hg]
    rfl
  · rw [Below.heap_alloc _ _ _ hlt]; exact hb
  · exact (MapKept.heap_alloc w _).1
  · rw [List.filter_eq_self.2 (by simp)]; exact hl
theorem filter_ne_erase {β : Type} {f : β → Nat} : ∀ (l : List β) (j : Nat) (hj : j < l.length), l.Pairwise (fun a b => f a < f b) → l.filter (fun e => !(f e == f l[j])) = l.eraseIdx j
  | [], _, hj, _ => by simp at hj
  | a :: l, 0, _, h => by
    simp only [List.getElem_cons_zero, List.eraseIdx_cons_zero, List.filter_cons, beq_self_eq_true, Bool.not_true, Bool.false_eq_true, if_false]
    refine List.filter_eq_self.2 fun b hb => ?_
    have := (List.pairwise_cons.1 h).1 b hb
    simp; omega
  | a :: l, j + 1, hj, h => by
    have hj' : j < l.length := by simpa using hj
    have := (List.pairwise_cons.1 h).1 (l[j]) (List.getElem_mem hj')
    simp only [List.getElem_cons_succ, List.eraseIdx_cons_succ, List.filter_cons]
    rw [if_pos (by simp; omega), filter_ne_erase l j hj' (List.pairwise_cons.1 h).2]
theorem IterAt.next_done {it : Nat} (h : IterAt enc w it m l []) (ty : TypeId) : (Instr.next (.pointer (some ⟨it, 0, none⟩)) false ty).run P w = .ok (.tuple #[.bool false]) w := by
  obtain ⟨es, clock, seen, hm, hi, hok, hl, ht⟩ := h
  have hg : (getObj m).run P w = .ok (.map es clock) w := by simp [getObj, Sem.run, hm]
  have hgi : (getObj it).run P w = .ok (.mapIter (some m) clock seen clock) w := by simp [getObj, Sem.run, hi]
  have hall : (!seen.isEmpty && !es.isEmpty && es.all (fun e => decide (e.born ≥ clock))) = false := by
    cases he : es.isEmpty with
    | true => simp
    | false =>
      have : es.all (fun e => decide (e.born ≥ clock)) = false := by
        rw [Array.all_eq_false]
        have hsz : 0 < es.size := by
          rcases Nat.eq_zero_or_pos es.size with h0 | h0
          · simp [Array.isEmpty, h0] at he
          · exact h0
        refine ⟨0, hsz, ?_⟩
        have := hok.1 (es[0]) (by simp)
        simp; omega
      simp [this]
  have hf : es.filter (fun e => !seen.contains e.born) = #[] := by
    have h0 : es.toList.filter (fun e => !seen.contains e.born) = [] := by simpa using ht
    apply Array.ext'
    rw [Array.toList_filter, h0]
  simp only [Instr.next, Sem.run_bind, hgi, Result.andThen_ok, hg, hall, hf]
  simp [Question.forced]
theorem IterAt.next_more {it : Nat} {todo : List (α × Value)} (h : IterAt enc w it m l todo) (hne : todo ≠ []) (ty : TypeId) :
    ∃ j, ∃ hj : j < todo.length, ∃ w', (Instr.next (.pointer (some ⟨it, 0, none⟩)) false ty).run P w = .ok (.tuple #[.bool true, enc (todo[j]).1, (todo[j]).2]) w' ∧ IterAt enc w' it m l (todo.eraseIdx j) ∧
      w.grownBy w' (some it) ∧ w'.heap.size = w.heap.size ∧ (Instr.entry (.pointer (some ⟨it, 0, none⟩))).run P w' = .ok (.tuple #[enc (todo[j]).1, (todo[j]).2]) w' := by
  obtain ⟨es, clock, seen, hm, hi, hok, hl, ht⟩ := h
  have hg : (getObj m).run P w = .ok (.map es clock) w := by simp [getObj, Sem.run, hm]
  have hgi : (getObj it).run P w = .ok (.mapIter (some m) clock seen clock) w := by simp [getObj, Sem.run, hi]
  have hit : it ≠ m := by rintro rfl; rw [hm] at hi; cases hi
  have hall : (!seen.isEmpty && !es.isEmpty && es.all (fun e => decide (e.born ≥ clock))) = false := by
    cases he : es.isEmpty with
    | true => simp
    | false =>
      have : es.all (fun e => decide (e.born ≥ clock)) = false := by
        rw [Array.all_eq_false]
        have hsz : 0 < es.size := by
          rcases Nat.eq_zero_or_pos es.size with h0 | h0
          · simp [Array.isEmpty, h0] at he
          · exact h0
        refine ⟨0, hsz, ?_⟩
        have := hok.1 (es[0]) (by simp)
        simp; omega
      simp [this]
  generalize hL : es.toList.filter (fun e => !seen.contains e.born) = L at ht
  have hLe : es.filter (fun e => !seen.contains e.born) = L.toArray := by
    apply Array.ext'
    rw [Array.toList_filter, hL]
  have hLb : ∀ e ∈ L, e.born < clock := by
    intro e he
    rw [← hL] at he
    exact hok.1 e (List.mem_filter.1 he).1
  have hold : L.toArray.filter (fun e => decide (e.born < clock)) = L.toArray := by
    rw [List.filter_toArray, List.filter_eq_self.2 (fun e he => by simpa using hLb e he)]
  have hnew : L.toArray.filter (fun e => decide (e.born ≥ clock)) = #[] := by
    rw [List.filter_toArray, List.filter_eq_nil_iff.2 (fun e he => by have := hLb e he; simp; omega)]
  have hlen : L.length = todo.length := by have := congrArg List.length ht; simpa using this
  have hL0 : 0 < L.length := by
    rw [hlen]
    rcases todo with _ | ⟨a, b⟩
    · exact absurd rfl hne
    · simp
  have hemp : L.toArray.isEmpty = false := by
    cases L with
    | nil => simp at hL0
    | cons a b => rfl
  have hcand : ((if L.toArray.isEmpty = true then #[none] else #[]) ++ (L.toArray ++ #[]).map some : Array (Option MapEntry)) = L.toArray.map some := by simp [hemp]
  -- the choice
  obtain ⟨j, wj, hj, hrun, hwj⟩ : ∃ (j : Nat) (wj : World), j < L.length ∧ (choose (.mapNext L.length)).run P w = .ok j wj ∧ (wj = w ∨ wj = w.drew) := by
    by_cases hf : (Question.mapNext L.length).forced = true
    · exact ⟨0, w, hL0, by simp [choose, Sem.run, hf], .inl rfl⟩
    · refine ⟨(Question.mapNext L.length).cut (w.tape w.drawn (.mapNext L.length)), w.drew, ?_, by simp [choose, Sem.run, hf], .inr rfl⟩
      exact Nat.mod_lt _ hL0
  have hjt : j < todo.length := by omega
  have hpair : (L[j].key, L[j].val) = (enc (todo[j]).1, (todo[j]).2) := by
    have e1 : (L.map fun e => (e.key, e.val))[j]? = (todo.map fun p => (enc p.1, p.2))[j]? := by rw [ht]
    simpa [hj, hjt] using e1
  obtain ⟨hk, hv⟩ := Prod.mk.inj hpair
  have hmj : wj.heap[m]? = some (.map es clock) := by rcases hwj with rfl | rfl <;> exact hm
  have hij : wj.heap[it]? = some (.mapIter (some m) clock seen clock) := by rcases hwj with rfl | rfl <;> exact hi
  have hs : ∀ o, (setObj it o).run P wj = .ok () (setBlock wj it o) := by intro o; simp [setObj, Sem.run, hij, setBlock]
  obtain ⟨h1, h2, h3⟩ := heap_set_only (o' := .mapIter (some m) clock (seen.push (L[j]).born) clock) hij
  have hmem : L[j] ∈ es.toList := by
    have hsub : ∀ e ∈ L, e ∈ es.toList := by
      intro e he
      rw [← hL] at he
      exact (List.mem_filter.1 he).1
    exact hsub _ (List.getElem_mem hj)
  refine ⟨j, hjt, _, ?_, ⟨es, clock, seen.push (L[j]).born, ?_, h3, hok, hl, ?_⟩, ?_, ?_, ?_⟩
  · simp only [Instr.next, Sem.run_bind, hgi, Result.andThen_ok, hg, hall, hLe, hold, hnew, hcand]
    have hsz : (L.toArray.map some).size = L.length := by simp
    simp only [Bool.false_eq_true, if_false, Sem.run_bind, hsz, hrun, Result.andThen_ok, hold, hnew, hcand]
    have hjj : (L.toArray.map some)[j]? = some (some (L[j])) := by simp [hj]
    simp only [hjj, Sem.run_bind, hs, Result.andThen_ok, Sem.run_pure, hk, hv]
  · have hgb := h1.block m (by exact (Array.getElem?_eq_some_iff.1 hmj).1) (by simpa using Ne.symm hit)
    rw [hgb]; exact hmj
  · have hpw : L.Pairwise fun a b => a.born < b.born := by rw [← hL]; exact hok.2.filter _
    have e2 : ∀ bj, es.toList.filter (fun e => !(seen.push bj).contains e.born) = L.filter (fun e => !(e.born == bj)) := by
      intro bj
      rw [← hL, List.filter_filter]
      refine List.filter_congr fun e _ => ?_
      simp only [Array.contains_push, Bool.not_or]
      rw [Bool.and_comm]
    have := (e2 (L[j]).born).trans (filter_ne_erase (f := MapEntry.born) L j hj hpw)
    rw [this, map_eraseIdx, ht, ← map_eraseIdx]
  · rcases hwj with rfl | rfl
    · exact h1
    · exact ⟨h1.os, h1.tape, h1.output, h1.size, h1.block⟩
  · rcases hwj with rfl | rfl <;> exact h2
  · have hg' : (getObj m).run P (setBlock wj it (.mapIter (some m) clock (seen.push (L[j]).born) clock)) = .ok (.map es clock) (setBlock wj it (.mapIter (some m) clock (seen.push (L[j]).born) clock)) := by
      have hgb := h1.block m (by exact (Array.getElem?_eq_some_iff.1 hmj).1) (by simpa using Ne.symm hit)
      simp [getObj, Sem.run, hgb, hmj]
    have hgi' : (getObj it).run P (setBlock wj it (.mapIter (some m) clock (seen.push (L[j]).born) clock)) = .ok (.mapIter (some m) clock (seen.push (L[j]).born) clock) (setBlock wj it (.mapIter (some m) clock (seen.push (L[j]).born) clock)) := by
      simp [getObj, Sem.run, h3]
    have hfind : es.find? (fun e => e.born == (L[j]).born) = some (L[j]) := by
      rw [← Array.find?_toList]
      obtain ⟨i, hi', he⟩ := List.getElem_of_mem hmem
      rw [List.find?_eq_some_iff_getElem]
      refine ⟨by simp, i, hi', he, fun i' hi'' => ?_⟩
      have hp := List.pairwise_iff_getElem.1 hok.2 i' i (by omega) hi' hi''
      rw [he] at hp
      simp at hp ⊢
      omega
    simp only [Instr.entry, Sem.run_bind, hgi', Result.andThen_ok, hg', Array.back?_push]
    simp [hfind, hk, hv]
end
end Go.Proofs.YtkmmlfphcfcbgaaGreatDoor.Mp

/- The maps' laws at the operations, for the walk; frames by sets of blocks. -/
namespace Go.Proofs.YtkmmlfphcfcbgaaGreatDoor.Mp
open Go.RowKit Go.ChangeMaps
set_option linter.unusedVariables false
set_option linter.unusedSimpArgs false
set_option linter.unusedSectionVars false
theorem perm_erase {β : Type} : ∀ (l : List β) (j : Nat) (hj : j < l.length), List.Perm l (l[j] :: l.eraseIdx j)
  | [], _, hj => by simp at hj
  | a :: l, 0, _ => List.Perm.refl _
  | a :: l, j + 1, hj => by
    simp only [List.getElem_cons_succ, List.eraseIdx_cons_succ]
    exact (List.Perm.cons a (perm_erase l j (by simpa using hj))).trans (List.Perm.swap _ _ _)
section
variable {α : Type} [DecidableEq α] {enc : α → Value} {P : Program} {k e t : TypeId} (w : World) {m : Nat} {l : List (α × Value)}
  {ops : Array Oper} {rest : List Oper} {o : Oper} {a : Act} {Q : Exit → Act → World → Prop}
theorem wpl_lookup (hg : o.guard = none) (mo x : Operand) (ok : Bool) (hop : o.op = Op.lookup t mo x ok) (K : KeyK P k enc) (ht : P.underlying t = some (.map k e)) {z : Value} (hz : (zeroValue e).run P w = .ok z w)
    (y : α) (hm : a.eval mo = .map (some m)) (hx : a.eval x = enc y) (h : MapAt enc w m l)
    (hK : wpList P ops Q rest (a.put o.dst (if ok then .tuple #[(mlook l y).getD z, .bool (mlook l y).isSome] else (mlook l y).getD z)) w) : wpList P ops Q (o :: rest) a w := by
  refine wpList_plain hg fun K' hK' => ?_
  have hrun := h.lookup K ht hz y ok
  unfold Oper.wp
  simp only [execOp, hop, hm, hx, Sem.run_bind, hrun, Result.andThen_ok, Sem.run_pure, Oper.upon_value]
  exact hK' _ _ hK
theorem wpl_update (hg : o.guard = none) (mo x v : Operand) (hop : o.op = Op.mapUpdate t mo x v) (K : KeyK P k enc) (ht : P.underlying t = some (.map k e))
    (y : α) (hm : a.eval mo = .map (some m)) (hx : a.eval x = enc y) (h : MapAt enc w m l)
    (hK : ∀ w', MapAt enc w' m (setL l y (a.eval v)) → w.grownBy w' (some m) → w'.heap.size = w.heap.size → wpList P ops Q rest (a.put o.dst undef) w') : wpList P ops Q (o :: rest) a w := by
  refine wpList_plain hg fun K' hK' => ?_
  obtain ⟨w', hrun, h1, h2, h3⟩ := h.update K ht y (a.eval v)
  unfold Oper.wp
  simp only [execOp, hop, hm, hx, Sem.run_bind, hrun, Result.andThen_ok, Sem.run_pure, Oper.upon_skip]
  exact hK' _ _ (hK w' h1 h2 h3)
theorem wpl_delete (hg : o.guard = none) (mo x : Operand) {t2 : TypeId} (hop : o.op = Op.call { callee := Callee.builtin Builtin.delete, args := #[mo, x], argTypes := #[t, t2] }) (K : KeyK P k enc) (ht : P.underlying t = some (.map k e))
    (y : α) (hm : a.eval mo = .map (some m)) (hx : a.eval x = enc y) (h : MapAt enc w m l)
    (hK : ∀ w', MapAt enc w' m (delL l y) → w.grownBy w' (some m) → w'.heap.size = w.heap.size → wpList P ops Q rest (a.put o.dst (.tuple #[])) w') : wpList P ops Q (o :: rest) a w := by
  refine wpList_plain hg fun K' hK' => ?_
  obtain ⟨w', hrun, h1, h2, h3⟩ := h.delete K ht y o.type (t2 := t2)
  unfold Oper.wp
  simp [execOp, hop, resolve, invoke, builtin, hm, hx, hrun, Result.andThen]
  exact hK' _ _ (hK w' h1 h2 h3)
theorem wpl_clear (hg : o.guard = none) (mo : Operand) (hop : o.op = Op.call { callee := Callee.builtin Builtin.clear, args := #[mo], argTypes := #[t] }) (ht : P.underlying t = some (.map k e))
    (hm : a.eval mo = .map (some m)) (h : MapAt enc w m l)
    (hK : ∀ w', MapAt enc w' m ([] : List (α × Value)) → w.grownBy w' (some m) → w'.heap.size = w.heap.size → wpList P ops Q rest (a.put o.dst (.tuple #[])) w') : wpList P ops Q (o :: rest) a w := by
  refine wpList_plain hg fun K' hK' => ?_
  obtain ⟨w', hrun, h1, h2, h3⟩ := h.clear ht o.type
  unfold Oper.wp
  simp [execOp, hop, resolve, invoke, builtin, hm, hrun, Result.andThen]
  exact hK' _ _ (hK w' h1 h2 h3)
theorem wpl_len (hg : o.guard = none) (mo : Operand) (hop : o.op = Op.call { callee := Callee.builtin Builtin.len, args := #[mo], argTypes := #[t] }) (ht : P.underlying t = some (.map k e))
    (hm : a.eval mo = .map (some m)) (h : MapAt enc w m l)
    (hK : wpList P ops Q rest (a.put o.dst (.int .i64 l.length)) w) : wpList P ops Q (o :: rest) a w := by
  refine wpList_plain hg fun K' hK' => ?_
  have hrun := h.len ht o.type
  unfold Oper.wp
  simp [execOp, hop, resolve, invoke, builtin, hm, hrun, Result.andThen]
  exact hK' _ _ hK
theorem wpl_range (hg : o.guard = none) (mo : Operand) (hop : o.op = Op.range t mo) (ht : P.underlying t = some (.map k e))
    (hm : a.eval mo = .map (some m)) (h : MapAt enc w m l)
    (hK : ∀ w', IterAt enc w' w.heap.size m l l → w.grownBy w' none → w'.heap.size = w.heap.size + 1 → wpList P ops Q rest (a.put o.dst (.pointer (some ⟨w.heap.size, 0, none⟩))) w') : wpList P ops Q (o :: rest) a w := by
  refine wpList_plain hg fun K' hK' => ?_
  obtain ⟨w', hrun, h1, h2, h3⟩ := h.range ht
  unfold Oper.wp
  simp only [execOp, hop, hm, Sem.run_bind, hrun, Result.andThen_ok, Sem.run_pure, Oper.upon_value]
  exact hK' _ _ (hK w' h1 h2 h3)
/-- One step: nothing is left, or some entry comes (its place j among those to come is the tape's). -/
theorem wpl_next (hg : o.guard = none) (ito : Operand) (hop : o.op = Op.next ito false) {it : Nat} {todo : List (α × Value)} (hi : a.eval ito = .pointer (some ⟨it, 0, none⟩)) (h : IterAt enc w it m l todo)
    (hDone : todo = [] → wpList P ops Q rest (a.put o.dst (.tuple #[.bool false])) w)
    (hMore : ∀ (y : α) (v : Value) (todo' : List (α × Value)) (w' : World), List.Perm todo ((y, v) :: todo') → IterAt enc w' it m l todo' → w.grownBy w' (some it) → w'.heap.size = w.heap.size →
      (Instr.entry (.pointer (some ⟨it, 0, none⟩))).run P w' = .ok (.tuple #[enc y, v]) w' → wpList P ops Q rest (a.put o.dst (.tuple #[.bool true, enc y, v])) w') :
    wpList P ops Q (o :: rest) a w := by
  refine wpList_plain hg fun K' hK' => ?_
  unfold Oper.wp
  by_cases h0 : todo = []
  · have hD := hDone h0
    subst h0
    have hrun := h.next_done (P := P) o.type
    simp only [execOp, hop, hi, Sem.run_bind, hrun, Result.andThen_ok, Sem.run_pure, Oper.upon_value]
    exact hK' _ _ hD
  · obtain ⟨j, hj, w', hrun, h1, h2, h3, h4⟩ := h.next_more (P := P) h0 o.type
    simp only [execOp, hop, hi, Sem.run_bind, hrun, Result.andThen_ok, Sem.run_pure, Oper.upon_value]
    refine hK' _ _ (hMore _ _ _ w' ?_ h1 h2 h3 h4)
    exact perm_erase todo j hj
end
end Go.Proofs.YtkmmlfphcfcbgaaGreatDoor.Mp

/- How the program's disk lies in memory, and frames by sets of blocks. -/
namespace Go.Proofs.YtkmmlfphcfcbgaaGreatDoor.Da
open Go.RowKit Go.ChangeMaps Go.Proofs.YtkmmlfphcfcbgaaGreatDoor.Mp Go.Proofs.YtkmmlfphcfcbgaaGreatDoor.Dm
set_option linter.unusedVariables false
set_option linter.unusedSimpArgs false
set_option linter.unusedSectionVars false
/-- Outside the blocks of F, and of what was there, nothing has turned. -/
structure Frm (F : Nat → Prop) (w w' : World) : Prop where
  os : w'.os = w.os
  tape : w'.tape = w.tape
  output : w'.output = w.output
  size : w.heap.size ≤ w'.heap.size
  block : ∀ k, k < w.heap.size → ¬ F k → w'.heap[k]? = w.heap[k]?
theorem Frm.refl (F : Nat → Prop) (w : World) : Frm F w w := ⟨rfl, rfl, rfl, Nat.le_refl _, fun _ _ _ => rfl⟩
theorem Frm.trans {F G : Nat → Prop} {a b c : World} (h : Frm F a b) (k : Frm G b c) (hG : ∀ i, i < a.heap.size → G i → F i) : Frm F a c :=
  ⟨k.os.trans h.os, k.tape.trans h.tape, k.output.trans h.output, Nat.le_trans h.size k.size, fun i hi hF => (k.block i (Nat.lt_of_lt_of_le hi h.size) (fun hg => hF (hG i hi hg))).trans (h.block i hi hF)⟩
theorem Frm.mono {F G : Nat → Prop} {a b : World} (h : Frm F a b) (hG : ∀ i, i < a.heap.size → F i → G i) : Frm G a b :=
  ⟨h.os, h.tape, h.output, h.size, fun i hi hF => h.block i hi (fun hf => hF (hG i hi hf))⟩
theorem Frm.of_grown {w w' : World} {row : Option Nat} (h : w.grownBy w' row) : Frm (fun k => some k = row) w w' := ⟨h.os, h.tape, h.output, h.size, fun k hk hn => h.block k hk hn⟩
theorem Frm.of_below {w w' : World} (h : Below w.heap.size w w') (F : Nat → Prop) : Frm F w w' := ⟨h.os, h.tape, h.output, h.size, fun k hk _ => h.block k hk⟩
theorem Frm.below {F : Nat → Prop} {w w' : World} {B : Nat} (h : Frm F w w') (hF : ∀ k, F k → B ≤ k) (hB : B ≤ w.heap.size) : Below B w w' :=
  ⟨h.os, h.tape, h.output, h.size, fun k hk => h.block k (by omega) (fun hf => by have := hF k hf; omega)⟩
theorem Frm.drew {F : Nat → Prop} {a b : World} (h : Frm F a b) : Frm F a b.drew := ⟨h.os, h.tape, h.output, h.size, h.block⟩
theorem Frm.drewN {F : Nat → Prop} {a b : World} (n : Nat) (h : Frm F a b) : Frm F a (b.drewN n) := ⟨h.os, h.tape, h.output, h.size, h.block⟩
theorem Frm.alloc {F : Nat → Prop} {a b : World} (h : Frm F a b) (o : Obj) : Frm F a (b.alloc o) :=
  ⟨h.os, h.tape, h.output, by have := h.size; simp; omega, fun k hk hn => by rw [Below.heap_alloc _ _ _ (by have := h.size; omega)]; exact h.block k hk hn⟩
theorem Frm.setCell {F : Nat → Prop} {a b : World} (h : Frm F a b) (p : Addr) (v : Value) (hp : p.block < a.heap.size → F p.block) : Frm F a (b.setCell p v) :=
  ⟨h.os, h.tape, h.output, by have := h.size; simp; omega, fun k hk hn => by rw [Below.heap_setCell _ _ _ _ (by rintro rfl; exact hn (hp hk))]; exact h.block k hk hn⟩
theorem Frm.grown {F : Nat → Prop} {a b c : World} {row : Option Nat} (h : Frm F a b) (hg : b.grownBy c row) (hp : ∀ k, row = some k → k < a.heap.size → F k) : Frm F a c :=
  h.trans (Frm.of_grown hg) (fun i hi e => hp i e.symm hi)
theorem Frm.cell {F : Nat → Prop} {w w' : World} (h : Frm F w w') {b o : Nat} (hb : b < w.heap.size) (hF : ¬ F b) : w'.cell? ⟨b, o, none⟩ = w.cell? ⟨b, o, none⟩ := by
  simp only [World.cell?, h.block b hb hF]
theorem Frm.frozen {F : Nat → Prop} {w w' : World} (h : Frm F w w') {b o : Nat} (hb : b < w.heap.size) (hF : ¬ F b) : w'.frozen? ⟨b, o, none⟩ = w.frozen? ⟨b, o, none⟩ := by
  simp only [World.frozen?, h.block b hb hF]
/-! ### The errors -/
/-- An error by its number, as a value: eb tells where the text of each lies. -/
def errV (eb : Nat → Addr) (c : Err) : Value := if c = 0 then .nilIface else .iface 311 (.pointer (some (eb c)))
theorem errV_zero (eb : Nat → Addr) : errV eb 0 = .nilIface := rfl
/-- The package's variable of an error. -/
def gOf : Err → Nat
  | 1 => 3 | 2 => 7 | 3 => 8 | 4 => 10 | 5 => 9 | 6 => 11 | 7 => 5 | 8 => 0 | 9 => 4 | 10 => 6 | 11 => 0 | 12 => 0 | 13 => 2 | 14 => 0 | _ => 1
/-- The package's variables hold their errors (those of L), each another one. -/
structure ErrsAt (B : Nat) (w : World) (eb : Nat → Addr) (L : List Err) : Prop where
  var : ∀ c, c ∈ L → w.cell? ⟨gOf c, 0, none⟩ = some (errV eb c)
  blk : ∀ c, c ∈ L → ∃ cs t, w.heap[(eb c).block]? = some (.cells cs t (0, 0))
  ebl : ∀ c, c ∈ L → (eb c).block < B
  low : ∀ c, c ∈ L → gOf c < B
  inj : ∀ a b, a ∈ L → b ∈ L → eb a = eb b → a = b
  six : ∀ c, c ∈ [1, 6, 7, 8, 9, 15] → c ∈ L
theorem ErrsAt.frm {B : Nat} {w w' : World} {eb : Nat → Addr} {L : List Err} {F : Nat → Prop} (h : ErrsAt B w eb L) (hf : Frm F w w') (hF : ∀ k, F k → B ≤ k) : ErrsAt B w' eb L := by
  refine ⟨fun c hc => ?_, fun c hc => ?_, h.ebl, h.low, h.inj, h.six⟩
  · have h1 := h.var c hc
    have hlt : gOf c < w.heap.size := by
      simp only [World.cell?] at h1
      split at h1
      · rename_i h2; exact (Array.getElem?_eq_some_iff.1 h2).1
      · cases h1
    have hb := hf.block (gOf c) hlt (fun hk => by have := hF _ hk; have := h.low c hc; omega)
    rw [← h1]; simp only [World.cell?, hb]
  · obtain ⟨cs, t, h1⟩ := h.blk c hc
    have hlt : (eb c).block < w.heap.size := (Array.getElem?_eq_some_iff.1 h1).1
    exact ⟨cs, t, by rw [hf.block _ hlt (fun hk => by have := hF _ hk; have := h.ebl c hc; omega)]; exact h1⟩
section
variable {B : Nat} {w : World} {eb : Nat → Addr} {L : List Err}
theorem errV_pos (eb : Nat → Addr) (c : Err) (h : c ≠ 0) : errV eb c = .iface 311 (.pointer (some (eb c))) := by unfold errV; rw [if_neg h]
theorem ErrsAt.arg (h : ErrsAt B w eb L) : w.cell? ⟨3, 0, none⟩ = some (.iface 311 (.pointer (some (eb 1)))) := h.var 1 (h.six 1 (by simp))
theorem ErrsAt.io (h : ErrsAt B w eb L) : w.cell? ⟨11, 0, none⟩ = some (.iface 311 (.pointer (some (eb 6)))) := h.var 6 (h.six 6 (by simp))
theorem ErrsAt.down (h : ErrsAt B w eb L) : w.cell? ⟨5, 0, none⟩ = some (.iface 311 (.pointer (some (eb 7)))) := h.var 7 (h.six 7 (by simp))
theorem ErrsAt.gone (h : ErrsAt B w eb L) : w.cell? ⟨0, 0, none⟩ = some (.iface 311 (.pointer (some (eb 8)))) := h.var 8 (h.six 8 (by simp))
theorem ErrsAt.there (h : ErrsAt B w eb L) : w.cell? ⟨4, 0, none⟩ = some (.iface 311 (.pointer (some (eb 9)))) := h.var 9 (h.six 9 (by simp))
theorem ErrsAt.nil (h : ErrsAt B w eb L) : w.cell? ⟨1, 0, none⟩ = some (.iface 311 (.pointer (some (eb 15)))) := h.var 15 (h.six 15 (by simp))
end
/-! ### Blocks of cells -/
theorem blk_set {w : World} {b i : Nat} {c : Array Value} {e : TypeId} {f : Nat × Nat} {v : Value} (h : w.heap[b]? = some (.cells c e f)) : (w.setCell ⟨b, i, none⟩ v).heap[b]? = some (.cells (c.setIfInBounds i v) e f) := by
  simp [World.setCell, Array.getElem?_modify, h]
theorem blk_set_ne {w : World} {b k i : Nat} {v : Value} (h : k ≠ b) : (w.setCell ⟨b, i, none⟩ v).heap[k]? = w.heap[k]? := Below.heap_setCell _ _ _ _ h
theorem blk_alloc {w : World} {o : Obj} : (w.alloc o).heap[w.heap.size]? = some o := (MapKept.heap_alloc w _).1
theorem blk_alloc_lt {w : World} {o : Obj} {k : Nat} (h : k < w.heap.size) : (w.alloc o).heap[k]? = w.heap[k]? := Below.heap_alloc _ _ _ h
theorem blk_lt {w : World} {k : Nat} {o : Obj} (h : w.heap[k]? = some o) : k < w.heap.size := (Array.getElem?_eq_some_iff.1 h).1
/-- What a block known whole tells of a cell. -/
theorem cell_of {w : World} {b i : Nat} {c : Array Value} {e : TypeId} {v : Value} (h : w.heap[b]? = some (.cells c e (0, 0))) (hv : c[i]? = some v) : w.cell? ⟨b, i, none⟩ = some v := by
  simp [World.cell?, h, hv]
theorem cell_alloc {w : World} {a : Addr} {v : Value} {o : Obj} (h : w.cell? a = some v) : (w.alloc o).cell? a = some v :=
  (World.cell?_alloc_some w a o (by rw [h]; rfl)).trans h
theorem frozen_alloc {w : World} {b i : Nat} {o : Obj} (hb : b < w.heap.size) (h : w.frozen? ⟨b, i, none⟩ = false) : (w.alloc o).frozen? ⟨b, i, none⟩ = false := by
  simp only [World.frozen?, Below.heap_alloc _ _ _ hb] at h ⊢
  exact h
theorem frozen_of {w : World} {b i : Nat} {c : Array Value} {e : TypeId} (h : w.heap[b]? = some (.cells c e (0, 0))) : w.frozen? ⟨b, i, none⟩ = false := by
  simp [World.frozen?, h]
/-! ### The disk -/
inductive Lb where
  | main | names | sure | waiting | fails
  | file (i : Nat) | sd (i : Nat) | sb (i : Nat) | ad (i : Nat) | ab (i : Nat) | wb (i : Nat)
deriving DecidableEq
/-- The places of one file's parts, and of the disk's. -/
structure FAdr where
  fb : Nat
  sd : Value
  sb : Nat
  ad : Value
  ab : Nat
  wb : Nat
structure Adr where
  nm : Nat
  sm : Nat
  wv : Value
  fv : Value
  fa : Nat → FAdr
def fptr (A : Adr) (i : Nat) : Value := .pointer (some ⟨(A.fa i).fb, 0, none⟩)
def dptr (b : Nat) : Value := .pointer (some ⟨b, 0, none⟩)
def u8s (xs : List Int) : List Value := xs.map (Value.int .u8)
/-- A row of the disk's own: the slice v, its cells, its block's label. -/
structure RowAt (w : World) (lab : Nat → Option Lb) (p : Lb) (e : TypeId) (size : Nat) (v : Value) (n : Nat) (xs : List Value) : Prop where
  row : w.ownsRow 0 e size v n xs
  lab : ∀ g, v.ownBlock = some g → lab g = some p
/-- A set of sectors. -/
def SetAt (w : World) (m : Nat) (S : Nat → Bool) : Prop :=
  ∃ ks : List Int, MapAt (Value.int .i64) w m (ks.map fun k => (k, .int .i64 1)) ∧ ks.Nodup ∧ ∀ k : Int, k ∈ ks ↔ 0 ≤ k ∧ S k.toNat = true
def NamesAt (w : World) (m : Nat) (l : List (Name × Nat)) (A : Adr) : Prop :=
  ∃ l' : List (Name × Nat), l'.Perm l ∧ MapAt Value.string w m (l'.map fun p => (p.1, fptr A p.2))
def chgCells (A : Adr) (c : Chg) : List Value :=
  [.string (c.del.getD ⟨#[]⟩), .string ((c.put.map (·.1)).getD ⟨#[]⟩), match c.put with | some p => fptr A p.2 | none => .pointer none]
def failCells (p : Int × Int) : List Value := [.int .i64 p.1, .int .i64 p.2]
structure FileAt (w : World) (lab : Nat → Option Lb) (i : Nat) (a : FAdr) (f : FileS) : Prop where
  blk : w.heap[a.fb]? = some (.cells #[.int .i64 (i + 1 : Nat), a.sd, .map (some a.sb), a.ad, .map (some a.ab), .map (some a.wb)] 144 (0, 0))
  lfb : lab a.fb = some (.file i)
  seen : RowAt w lab (.sd i) 5 1 a.sd f.seen.length (u8s f.seen)
  safe : RowAt w lab (.ad i) 5 1 a.ad f.safe.length (u8s f.safe)
  badSeen : SetAt w a.sb f.badSeen
  lsb : lab a.sb = some (.sb i)
  badSafe : SetAt w a.ab f.badSafe
  lab_ : lab a.ab = some (.ab i)
  waits : SetAt w a.wb f.waits
  lwb : lab a.wb = some (.wb i)
def mainCells (A : Adr) (D : Disk) : Array Value :=
  #[.map (some A.nm), .map (some A.sm), A.wv, .int .i64 D.files.length, .int .i64 D.count, .int .i64 D.since, A.fv, .int .i64 D.cut, .bool D.off]
/-- The disk D lies at A; its blocks are those that lab names, all from B on. -/
structure DiskAt (B : Nat) (w : World) (b : Nat) (A : Adr) (lab : Nat → Option Lb) (D : Disk) : Prop where
  blk : w.heap[b]? = some (.cells (mainCells A D) 102 (0, 0))
  lb : lab b = some .main
  names : NamesAt w A.nm D.now A
  lnm : lab A.nm = some .names
  sure : NamesAt w A.sm D.sure A
  lsm : lab A.sm = some .sure
  waiting : RowAt w lab .waiting 135 3 A.wv D.changes.length (D.changes.flatMap (chgCells A))
  fails : RowAt w lab .fails 159 2 A.fv D.fails.length (D.fails.flatMap failCells)
  files : ∀ i f, D.files[i]? = some f → FileAt w lab i (A.fa i) f
  base : ∀ k p, lab k = some p → B ≤ k ∧ k < w.heap.size
/-- The blocks of a disk. -/
def Ft (lab : Nat → Option Lb) (k : Nat) : Prop := (lab k).isSome = true
theorem ne_of_lab {lab : Nat → Option Lb} {a b : Nat} {p q : Lb} (ha : lab a = some p) (hb : lab b = some q) (h : p ≠ q) : a ≠ b := by
  rintro rfl
  rw [ha] at hb
  exact h (Option.some.inj hb)
theorem RowAt.same {w w' : World} {lab : Nat → Option Lb} {p : Lb} {e : TypeId} {size : Nat} {v : Value} {n : Nat} {xs : List Value} (h : RowAt w lab p e size v n xs) (hk : ∀ k, lab k = some p → w'.heap[k]? = w.heap[k]?) : RowAt w' lab p e size v n xs := by
  refine ⟨⟨h.row.1, ?_⟩, h.lab⟩
  rcases h.row.2 with h2 | ⟨g, cap, cur, hv, hg, hh, r⟩
  · exact .inl h2
  · exact .inr ⟨g, cap, cur, hv, hg, by rw [hk g (h.lab g (by rw [hv]; rfl))]; exact hh, r⟩
theorem RowAt.relab {w : World} {lab lab' : Nat → Option Lb} {p : Lb} {e : TypeId} {size : Nat} {v : Value} {n : Nat} {xs : List Value} (h : RowAt w lab p e size v n xs) (hk : ∀ k, lab k = some p → lab' k = some p) : RowAt w lab' p e size v n xs :=
  ⟨h.row, fun g hg => hk g (h.lab g hg)⟩
/-- The cells of a row of the disk's own. -/
theorem RowAt.cells {w : World} {lab : Nat → Option Lb} {p : Lb} {e : TypeId} {size : Nat} {v : Value} {n : Nat} {xs : List Value} (h : RowAt w lab p e size v n xs) :
    (v = .slice none 0 0 ∧ n = 0) ∨ ∃ g cap, v = .slice (some ⟨g, 0, none⟩) n cap ∧ n ≤ cap ∧ cap ≤ maxLen ∧ lab g = some p ∧ g < w.heap.size ∧ ∀ j, j < n * size → w.cell? ⟨g, j, none⟩ = xs[j]? := by
  rcases h.row.2 with h2 | ⟨g, cap, cur, hv, hg, hh, h1, h3, h4, h5⟩
  · exact .inl h2
  · refine .inr ⟨g, cap, hv, h1, h3, h.lab g (by rw [hv]; rfl), blk_lt hh, fun j hj => ?_⟩
    simp only [World.cell?, hh]
    rw [← h5, List.getElem?_take_of_lt hj]
    simp
theorem SetAt.same {w w' : World} {m : Nat} {S : Nat → Bool} (h : SetAt w m S) (hk : w'.heap[m]? = w.heap[m]?) : SetAt w' m S := by
  obtain ⟨ks, h1, h2⟩ := h
  exact ⟨ks, h1.of_block hk, h2⟩
theorem NamesAt.same {w w' : World} {m : Nat} {l : List (Name × Nat)} {A : Adr} (h : NamesAt w m l A) (hk : w'.heap[m]? = w.heap[m]?) : NamesAt w' m l A := by
  obtain ⟨ks, h1, h2⟩ := h
  exact ⟨ks, h1, h2.of_block hk⟩
theorem FileAt.same {w w' : World} {lab : Nat → Option Lb} {i : Nat} {a : FAdr} {f : FileS} (h : FileAt w lab i a f)
    (hk : ∀ k p, lab k = some p → (p = .file i ∨ p = .sd i ∨ p = .sb i ∨ p = .ad i ∨ p = .ab i ∨ p = .wb i) → w'.heap[k]? = w.heap[k]?) : FileAt w' lab i a f :=
  ⟨by rw [hk _ _ h.lfb (by simp)]; exact h.blk, h.lfb, h.seen.same (fun k hl => hk k _ hl (by simp)), h.safe.same (fun k hl => hk k _ hl (by simp)), h.badSeen.same (hk _ _ h.lsb (by simp)), h.lsb,
    h.badSafe.same (hk _ _ h.lab_ (by simp)), h.lab_, h.waits.same (hk _ _ h.lwb (by simp)), h.lwb⟩
theorem FileAt.relab {w : World} {lab lab' : Nat → Option Lb} {i : Nat} {a : FAdr} {f : FileS} (h : FileAt w lab i a f)
    (hk : ∀ k p, lab k = some p → (p = .file i ∨ p = .sd i ∨ p = .sb i ∨ p = .ad i ∨ p = .ab i ∨ p = .wb i) → lab' k = some p) : FileAt w lab' i a f :=
  ⟨h.blk, hk _ _ h.lfb (by simp), h.seen.relab (fun k hl => hk k _ hl (by simp)), h.safe.relab (fun k hl => hk k _ hl (by simp)), h.badSeen, hk _ _ h.lsb (by simp),
    h.badSafe, hk _ _ h.lab_ (by simp), h.waits, hk _ _ h.lwb (by simp)⟩
section
variable {B : Nat} {w w' : World} {b : Nat} {A : Adr} {lab : Nat → Option Lb} {D : Disk}
/-- Where none of the disk's blocks has turned. -/
theorem DiskAt.same (h : DiskAt B w b A lab D) (hk : ∀ k p, lab k = some p → w'.heap[k]? = w.heap[k]?) (hs : w.heap.size ≤ w'.heap.size) : DiskAt B w' b A lab D :=
  ⟨by rw [hk _ _ h.lb]; exact h.blk, h.lb, h.names.same (hk _ _ h.lnm), h.lnm, h.sure.same (hk _ _ h.lsm), h.lsm, h.waiting.same (fun k hl => hk k _ hl), h.fails.same (fun k hl => hk k _ hl),
    fun i f hf => (h.files i f hf).same (fun k p hl _ => hk k p hl), fun k p hl => ⟨(h.base k p hl).1, Nat.lt_of_lt_of_le (h.base k p hl).2 hs⟩⟩
theorem DiskAt.frame {F : Nat → Prop} (h : DiskAt B w b A lab D) (hf : Frm F w w') (hF : ∀ k, F k → lab k = none) : DiskAt B w' b A lab D :=
  h.same (fun k p hl => hf.block k (h.base k p hl).2 (fun hk => by rw [hF k hk] at hl; cases hl)) hf.size
/-- A scalar field of the disk has turned. -/
theorem DiskAt.scalar (h : DiskAt B w b A lab D) {D' : Disk} (hb : w'.heap[b]? = some (.cells (mainCells A D') 102 (0, 0))) (hk : ∀ k, k < w.heap.size → k ≠ b → w'.heap[k]? = w.heap[k]?) (hs : w.heap.size ≤ w'.heap.size)
    (e1 : D'.files = D.files) (e2 : D'.now = D.now) (e3 : D'.sure = D.sure) (e4 : D'.changes = D.changes) (e5 : D'.fails = D.fails) : DiskAt B w' b A lab D' := by
  have hk' : ∀ k p, lab k = some p → p ≠ .main → w'.heap[k]? = w.heap[k]? := fun k p hl hp => hk k (h.base k p hl).2 (ne_of_lab hl h.lb hp)
  exact ⟨hb, h.lb, by rw [e2]; exact h.names.same (hk' _ _ h.lnm (by simp)), h.lnm, by rw [e3]; exact h.sure.same (hk' _ _ h.lsm (by simp)), h.lsm, by rw [e4]; exact h.waiting.same (fun k hl => hk' k _ hl (by simp)),
    by rw [e5]; exact h.fails.same (fun k hl => hk' k _ hl (by simp)), fun i f hf => (h.files i f (by rw [← e1]; exact hf)).same (fun k p hl hp => hk' k p hl (by rcases hp with rfl | rfl | rfl | rfl | rfl | rfl <;> simp)),
    fun k p hl => ⟨(h.base k p hl).1, Nat.lt_of_lt_of_le (h.base k p hl).2 hs⟩⟩
end
theorem DiskAt.alloc {B b : Nat} {A : Adr} {lab : Nat → Option Lb} {w : World} {D : Disk} (h : DiskAt B w b A lab D) (o : Obj) : DiskAt B (w.alloc o) b A lab D :=
  h.same (fun k p hl => blk_alloc_lt (h.base k p hl).2) (by simp)
theorem ErrsAt.alloc {B : Nat} {w : World} {eb : Nat → Addr} {L : List Err} (h : ErrsAt B w eb L) (o : Obj) : ErrsAt B (w.alloc o) eb L :=
  h.frm (F := fun _ => False) ((Frm.refl _ _).alloc o) (fun _ h => h.elim)
/-- Behind some steps that began in w0 at this disk: it lies at the same block as D; outside its blocks nothing that was there has turned. -/
def Ext (B b : Nat) (lab0 : Nat → Option Lb) (w0 w : World) (D : Disk) : Prop :=
  ∃ A lab, DiskAt B w b A lab D ∧ Frm (Ft lab0) w0 w ∧ ∀ k, k < w0.heap.size → Ft lab k → Ft lab0 k
theorem Ext.refl {B b : Nat} {A : Adr} {lab : Nat → Option Lb} {w : World} {D : Disk} (h : DiskAt B w b A lab D) : Ext B b lab w w D := ⟨A, lab, h, Frm.refl _ _, fun _ _ h => h⟩
theorem Ext.trans {B b : Nat} {lab0 lab1 : Nat → Option Lb} {w0 w1 w2 : World} {D2 : Disk} (hf : Frm (Ft lab0) w0 w1) (hl : ∀ k, k < w0.heap.size → Ft lab1 k → Ft lab0 k)
    (h : Ext B b lab1 w1 w2 D2) : Ext B b lab0 w0 w2 D2 := by
  obtain ⟨A2, lab2, h2, h3, h4⟩ := h
  exact ⟨A2, lab2, h2, hf.trans h3 (fun i hi hg => hl i hi hg), fun k hk hg => hl k hk (h4 k (Nat.lt_of_lt_of_le hk hf.size) hg)⟩
/-- .. behind a step that leaves the disk's blocks alone. -/
theorem Ext.keep {B b : Nat} {lab0 : Nat → Option Lb} {w0 w1 w2 : World} {D : Disk} (h : Ext B b lab0 w0 w1 D) {F : Nat → Prop} (hf : Frm F w1 w2) (hF : ∀ k, k < w1.heap.size → ¬ F k) : Ext B b lab0 w0 w2 D := by
  obtain ⟨A, lab, h1, h2, h3⟩ := h
  refine ⟨A, lab, h1.same (fun k p hl => hf.block k (h1.base k p hl).2 (hF k (h1.base k p hl).2)) hf.size, ?_, h3⟩
  exact h2.trans hf (fun i hi hg => absurd hg (hF i (Nat.lt_of_lt_of_le hi h2.size)))
end Go.Proofs.YtkmmlfphcfcbgaaGreatDoor.Da
