/- A part of the proof of segmentMemoryUpto_holds: El, Em. No condition. -/
import Derived.Test.YtkmmlfphcfcbgaaGreatDoorC14

/- What a loss of power leaves, in memory: files of an image, the sides by name. -/
namespace Go.Proofs.YtkmmlfphcfcbgaaGreatDoor.Dw
open Go.RowKit Go.ChangeMaps Go.Proofs.YtkmmlfphcfcbgaaGreatDoor.Mp Go.Proofs.YtkmmlfphcfcbgaaGreatDoor.Dm Go.Proofs.YtkmmlfphcfcbgaaGreatDoor.Da Go.Proofs.YtkmmlfphcfcbgaaGreatDoorW.PrintWords
set_option linter.unusedVariables false
set_option linter.unusedSimpArgs false
set_option linter.unusedSectionVars false
/-- A file of an image, in memory. -/
def fileK : Kd Plain := Kd.iso (Kd.pair Kd.string (Kd.pair (Kd.slice 5 (Kd.int .u8)) (Kd.slice 3 (Kd.int .i64)))) fun p => (p.name, p.data, p.bad)
theorem fileK_sz : fileK.sz = 3 := rfl
theorem Lies.of_own {w : World} {base : Nat} {v : Value} {xs : List Int} (h : w.ownsRow base 5 1 v xs.length (u8s xs)) : Lies w v xs := by
  rcases h.2 with ⟨h1, h2⟩ | ⟨g, cap, cur, rfl, _, hh, _, _, _, h4⟩
  · exact .inl ⟨h1, List.eq_nil_of_length_eq_zero h2⟩
  · refine .inr ⟨g, 0, cap, rfl, fun j u hu => ?_⟩
    have hj : j < xs.length := by have := (List.getElem?_eq_some_iff.1 hu).1; simpa [u8s] using this
    rw [Nat.zero_add, h.cellAt j (by omega)]; exact hu
theorem setCell_grown (w : World) (g i : Nat) (u : Value) : w.grownBy (w.setCell ⟨g, i, none⟩ u) (some g) := ⟨rfl, rfl, rfl, by simp, fun k _ hne => blk_set_ne (fun e => hne (by rw [e]))⟩
theorem fileInfo : (Tryz.prog.info? 78).map (fun i => (i.zero, i.size, i.bytes)) = some (some (.agg #[.string ⟨#[]⟩, .slice none 0 0, .slice none 0 0]), 3, 64) := by kernel_rfl
theorem fileK_M' {w : World} {base B : Nat} {n : Name} {dv bv : Value} {xs bs : List Int} (h1 : w.ownsRow B 5 1 dv xs.length (u8s xs)) (h2 : w.ownsRow B 3 1 bv bs.length (i64s bs)) (hB : base ≤ B) : fileK.M w base (fun k => B ≤ k) ⟨n, xs, bs⟩ [.string n, dv, bv] :=
  ⟨[.string n], [dv, bv], rfl, rfl, [dv], [bv], rfl, ⟨dv, rfl, Kd.R_lower (Kd.R_of_own h1 (fun _ hk => (own_low h1 hk).1)) hB⟩, ⟨bv, rfl, Kd.R_lower (Kd.R_of_own h2 (fun _ hk => (own_low h2 hk).1)) hB⟩⟩
/-- The sides by name, in the map ms, each made behind it. -/
def SidesAt (base : Nat) (w : World) (ms : Nat) (l : List (Name × Side)) : Prop :=
  ∃ es : List (Name × Value), MapAt Value.string w ms es ∧ es.length = l.length ∧ ∀ (j : Nat) (e : Name × Value) (s : Name × Side), es[j]? = some e → l[j]? = some s → e.1 = s.1 ∧ ∃ dv m, e.2 = .agg #[dv, .map (some m)] ∧ w.ownsRow base 5 1 dv s.2.data.length (u8s s.2.data) ∧ SetAt w m s.2.bad ∧ ms < m
theorem SidesAt.lt {base : Nat} {w : World} {ms : Nat} {l : List (Name × Side)} (h : SidesAt base w ms l) : ms < w.heap.size := by
  obtain ⟨es, h1, _⟩ := h; exact h1.lt
theorem SidesAt.grown {base : Nat} {w w' : World} {ms : Nat} {l : List (Name × Side)} {row : Option Nat} (h : SidesAt base w ms l) (hg : w.grownBy w' row) (hr : ∀ g, row = some g → g < w.heap.size → ∃ cs t, w.heap[g]? = some (.cells cs t (0, 0)) ∧ t ≠ 5) : SidesAt base w' ms l := by
  obtain ⟨es, h1, h2, h3⟩ := h
  have hmap : ∀ (k : Nat) (es : Array MapEntry) (cl : Nat), w.heap[k]? = some (Obj.map es cl) → w'.heap[k]? = w.heap[k]? := by
    intro k es cl hk
    refine hg.block k (Da.blk_lt hk) fun e => ?_
    obtain ⟨cs, t, hc, _⟩ := hr k e.symm (Da.blk_lt hk)
    rw [hk] at hc; cases hc
  refine ⟨es, ?_, h2, fun j e s he hs => ?_⟩
  · obtain ⟨x, cl, hh, _⟩ := id h1
    exact h1.of_block (hmap _ _ _ hh)
  · obtain ⟨e1, dv, m, e2, e3, e4, e5⟩ := h3 j e s he hs
    refine ⟨e1, dv, m, e2, own_grown e3 hg fun g hgd e => ?_, ?_, e5⟩
    · obtain ⟨cs, t, hc, ht⟩ := hr g e.symm (own_low e3 hgd).2
      exact own_ne_cells e3 hc (Ne.symm ht) hgd.symm
    · obtain ⟨ks, hm, _⟩ := id e4
      obtain ⟨x, cl, hh, _⟩ := hm
      exact e4.same (hmap _ _ _ hh)
theorem SidesAt.frm {base : Nat} {w w' : World} {ms : Nat} {l : List (Name × Side)} (h : SidesAt base w ms l) (hf : Frm (fun _ => False) w w') : SidesAt base w' ms l :=
  h.grown (row := none) ⟨hf.os, hf.tape, hf.output, hf.size, fun k hk _ => hf.block k hk id⟩ (fun g e => by cases e)
theorem setL_new {α : Type} [DecidableEq α] {es : List (α × Value)} {x : α} {v : Value} (h : x ∉ es.map (·.1)) : setL es x v = es ++ [(x, v)] := by
  induction es with
  | nil => rfl
  | cons p l ih =>
    simp only [List.map_cons, List.mem_cons, not_or] at h
    rw [setL_cons, if_neg (Ne.symm h.1), ih h.2]; rfl
/-- One side more. -/
theorem SidesAt.put {base : Nat} {w : World} {ms : Nat} {l : List (Name × Side)} {n : Name} {s : Side} {dv : Value} {m : Nat} (h : SidesAt base w ms l) (hn : n ∉ l.map (·.1)) (h1 : w.ownsRow base 5 1 dv s.data.length (u8s s.data)) (h2 : SetAt w m s.bad) (h3 : ms < m) :
    ∃ es : List (Name × Value), MapAt Value.string w ms es ∧ ∀ w', MapAt Value.string w' ms (setL es n (.agg #[dv, .map (some m)])) → w.grownBy w' (some ms) → SidesAt base w' ms (l ++ [(n, s)]) := by
  obtain ⟨es, a1, a2, a3⟩ := h
  refine ⟨es, a1, fun w' hm hg => ?_⟩
  have hkeys : es.map (·.1) = l.map (·.1) := by
    apply List.ext_getElem?
    intro i
    rw [List.getElem?_map, List.getElem?_map]
    rcases Nat.lt_or_ge i es.length with hi | hi
    · rw [List.getElem?_eq_getElem hi, List.getElem?_eq_getElem (by omega)]
      exact congrArg some (a3 i _ _ (List.getElem?_eq_getElem hi) (List.getElem?_eq_getElem (by omega))).1
    · rw [List.getElem?_eq_none hi, List.getElem?_eq_none (by omega)]; rfl
  rw [setL_new (by rw [hkeys]; exact hn)] at hm
  have hcells : ∀ (g : Nat) (cs : Array Value) (t : TypeId), w.heap[g]? = some (Obj.cells cs t (0, 0)) → some g ≠ some ms := by
    intro g cs t hh e
    obtain ⟨x, cl, hm1, _⟩ := a1
    rw [Option.some.inj e, hm1] at hh; cases hh
  have hrow : ∀ {dv : Value} {xs : List Int}, w.ownsRow base 5 1 dv xs.length (u8s xs) → w'.ownsRow base 5 1 dv xs.length (u8s xs) := by
    intro dv xs hr
    refine own_grown hr hg fun g hgd => ?_
    rcases hr.2 with ⟨e1, _⟩ | ⟨g', cap, cur, e1, _, hh, _⟩
    · rw [e1] at hgd; simp [Value.ownBlock] at hgd
    · rw [e1] at hgd
      have : g' = g := by simpa [Value.ownBlock] using hgd
      subst this
      exact hcells _ _ _ hh
  have hset : ∀ {m : Nat} {b : Nat → Bool}, SetAt w m b → ms < m → SetAt w' m b := by
    intro m b hs hlt
    obtain ⟨ks, hk, _⟩ := id hs
    exact hs.same (hg.block m hk.lt (fun e => by have := Option.some.inj e; omega))
  refine ⟨es ++ [(n, .agg #[dv, .map (some m)])], hm, by simp [a2], fun j e s' he hs' => ?_⟩
  rcases Nat.lt_or_ge j es.length with hj | hj
  · rw [List.getElem?_append_left hj] at he
    rw [List.getElem?_append_left (by omega)] at hs'
    obtain ⟨e1, dv', m', e2, e3, e4, e5⟩ := a3 j e s' he hs'
    exact ⟨e1, dv', m', e2, hrow e3, hset e4 e5, e5⟩
  · rw [List.getElem?_append_right hj] at he
    rw [List.getElem?_append_right (by omega)] at hs'
    have hj0 : j - es.length = 0 := by
      have := (List.getElem?_eq_some_iff.1 he).1
      simp at this; omega
    rw [hj0] at he
    rw [← a2, hj0] at hs'
    simp only [List.getElem?_cons_zero, Option.some.injEq] at he hs'
    subst he
    subst hs'
    exact ⟨rfl, dv, m, rfl, hrow h1, hset h2 h3, h3⟩
/-- A side that was put. -/
theorem SidesAt.get {base : Nat} {w : World} {ms : Nat} {l : List (Name × Side)} (h : SidesAt base w ms l) {n : Name} (hn : n ∈ l.map (·.1)) :
    ∃ es : List (Name × Value), MapAt Value.string w ms es ∧ ∃ dv m, mlook es n = some (.agg #[dv, .map (some m)]) ∧ w.ownsRow base 5 1 dv (sideOf l n).data.length (u8s (sideOf l n).data) ∧ SetAt w m (sideOf l n).bad := by
  obtain ⟨es, a1, a2, a3⟩ := h
  refine ⟨es, a1, ?_⟩
  clear a1
  induction es generalizing l with
  | nil =>
    have : l = [] := List.eq_nil_of_length_eq_zero a2.symm
    subst this
    simp at hn
  | cons e es ih =>
    match l, a2 with
    | s :: l, a2 =>
      obtain ⟨b1, dv, m, b2, b3, b4, _⟩ := a3 0 e s rfl rfl
      by_cases he : s.1 = n
      · refine ⟨dv, m, ?_, ?_, ?_⟩
        · simp [mlook, b1, he, b2]
        · simpa [sideOf, he] using b3
        · simpa [sideOf, he] using b4
      · have hn' : n ∈ l.map (·.1) := by
          simp only [List.map_cons, List.mem_cons] at hn
          rcases hn with h | h
          · exact absurd h.symm he
          · exact h
        obtain ⟨dv', m', c1, c2, c3⟩ := ih hn' (by simpa using a2) (fun j e' s' h1 h2 => a3 (j + 1) e' s' h1 h2)
        refine ⟨dv', m', ?_, ?_, ?_⟩
        · simp only [mlook, List.find?_cons, b1, he, decide_false] at c1 ⊢
          exact c1
        · simpa [sideOf, he] using c2
        · simpa [sideOf, he] using c3
end Go.Proofs.YtkmmlfphcfcbgaaGreatDoor.Dw

/- Walks: Crash. -/
namespace Go.Proofs.YtkmmlfphcfcbgaaGreatDoor.Dm
set_option linter.unusedVariables false
def wl (D : Disk) (p : Name × Nat) : Nat := (waitList (D.file p.2)).length
theorem sidesBy_snoc (D : Disk) (fs : List Int) : ∀ (l : List (Name × Nat)) (p : Name × Nat) (c : Nat), sidesBy D fs (l ++ [p]) c = sidesBy D fs l c ++ [(p.1, (D.file p.2).fated (fatesFrom fs (c + (l.map (wl D)).sum) (wl D p)))]
  | [], p, c => by simp [sidesBy, wl]
  | q :: l, p, c => by
    simp only [List.cons_append, sidesBy, List.map_cons, List.sum_cons]
    rw [sidesBy_snoc D fs l p, Nat.add_assoc]
    rfl
theorem sidesBy_names (D : Disk) (fs : List Int) : ∀ (l : List (Name × Nat)) (c : Nat), (sidesBy D fs l c).map (·.1) = l.map (·.1)
  | [], _ => rfl
  | p :: l, c => by simp [sidesBy, sidesBy_names D fs l]
theorem sum_le {α : Type} {l : List α} {g : α → Nat} {m : Nat} (h : ∀ x, x ∈ l → g x ≤ m) : (l.map g).sum ≤ l.length * m := by
  induction l with
  | nil => simp
  | cons a l ih =>
    have h1 := h a List.mem_cons_self
    have h2 := ih fun x hx => h x (List.mem_cons_of_mem _ hx)
    simp only [List.map_cons, List.sum_cons, List.length_cons, Nat.add_mul, Nat.one_mul]
    omega
theorem wl_le {D : Disk} {p : Name × Nat} {n : Nat} (h : ∀ f, f ∈ D.files → f.seen.length ≤ n) : wl D p ≤ (n + 511) / 512 := by
  unfold wl waitList
  refine Nat.le_trans (List.length_filter_le _ _) ?_
  simp only [List.length_range]
  unfold Disk.file
  cases hf : D.files[p.2]? with
  | none => simp [sectors, FileS.new]
  | some f =>
    have := h f (List.mem_of_getElem? hf)
    simp only [Option.getD_some]
    unfold sectors
    omega
theorem fatesFrom_succ (fs : List Int) (c j : Nat) : fatesFrom fs c (j + 1) = fatesFrom fs c j ++ [(fs[c + j]?).getD 0] := by
  unfold fatesFrom
  rw [List.range_succ, List.map_append]; rfl
theorem fatesFrom_length (fs : List Int) (c j : Nat) : (fatesFrom fs c j).length = j := by unfold fatesFrom; simp
theorem fates_set (fs : List Int) (c j n : Nat) (h : j < n) (x : Int) (hx : (fs[c + j]?).getD 0 = x) : (fatesFrom fs c j ++ List.replicate (n - j) 0).set j x = fatesFrom fs c (j + 1) ++ List.replicate (n - (j + 1)) 0 := by
  rw [fatesFrom_succ, List.set_append_right _ _ (by rw [fatesFrom_length]; exact Nat.le_refl _), fatesFrom_length, Nat.sub_self, hx]
  obtain ⟨m, hm⟩ : ∃ m, n - j = m + 1 := ⟨n - j - 1, by omega⟩
  rw [hm, List.replicate_succ, List.set_cons_zero, show n - (j + 1) = m by omega, List.append_assoc]; rfl
theorem fates_keep (fs : List Int) (c j n : Nat) (h : j < n) (hx : fs.length ≤ c + j) : fatesFrom fs c j ++ List.replicate (n - j) 0 = fatesFrom fs c (j + 1) ++ List.replicate (n - (j + 1)) 0 := by
  rw [fatesFrom_succ, List.getElem?_eq_none hx]
  obtain ⟨m, hm⟩ : ∃ m, n - j = m + 1 := ⟨n - j - 1, by omega⟩
  rw [hm, List.replicate_succ, show n - (j + 1) = m by omega, List.append_assoc]; rfl
theorem Ns.len_le {N : Nat} {l : List (Name × Nat)} (h : Ns N l) : l.length ≤ N := by
  have h1 : ((l.map (·.2))).length ≤ (List.range N).length := by
    have : ∀ (a b : List Nat), a.Nodup → (∀ x, x ∈ a → x ∈ b) → a.length ≤ b.length := by
      intro a
      induction a with
      | nil => intro b _ _; simp
      | cons x a ih =>
        intro b hn hs
        simp only [List.nodup_cons] at hn
        have hx := hs x List.mem_cons_self
        have h2 := ih (b.erase x) hn.2 fun y hy => (List.mem_erase_of_ne (fun e => hn.1 (by rw [← e]; exact hy))).2 (hs y (List.mem_cons_of_mem _ hy))
        have h3 := List.length_erase_of_mem hx
        have h4 : 0 < b.length := List.length_pos_of_mem hx
        simp only [List.length_cons]; omega
    refine this _ _ h.ids fun x hx => ?_
    obtain ⟨p, hp, rfl⟩ := List.mem_map.1 hx
    exact List.mem_range.2 (h.lt p hp)
  simpa using h1
end Go.Proofs.YtkmmlfphcfcbgaaGreatDoor.Dm
namespace Go.Proofs.YtkmmlfphcfcbgaaGreatDoor.Dw
open Go.RowKit Go.ChangeMaps Go.Proofs.YtkmmlfphcfcbgaaGreatDoor.Mp Go.Proofs.YtkmmlfphcfcbgaaGreatDoor.Dm Go.Proofs.YtkmmlfphcfcbgaaGreatDoor.Da
open Go.Proofs.YtkmmlfphcfcbgaaGreatDoorW.PrintWords (Kd own_store nums)
set_option linter.unusedVariables false
set_option linter.unusedSimpArgs false
set_option linter.unusedSectionVars false
theorem set_len {w : World} {m : Nat} {S : Nat → Bool} {M : Nat} (h : SetAt w m S) (hM : ∀ k, S k = true → k < M) : ∃ ks : List Int, MapAt (Value.int .i64) w m (ent ks) ∧ ks.length = (numbers S M).length := by
  obtain ⟨ks, h1, h2, h3⟩ := h
  refine ⟨ks, h1, ?_⟩
  rw [← sorted_set (List.Perm.refl ks) h2 h3 hM]; simp
/-- In Crash's loops. -/
structure CrashInv (w wr : World) (A : Adr) (l : List (Name × Nat)) (fv : Value) (k : Int) (s0 s1 s2 nv m2 ms : Nat) (lv bv : Value) (sd : List (Name × Side)) : Prop where
  frm : Frm (fun _ => False) w wr
  box : wr.heap[s0]? = some (.cells #[fv, .int .i64 k] 86 (0, 0))
  res : wr.heap[s1]? = some (.cells #[.slice none 0 0] 74 (0, 0))
  img : wr.heap[s2]? = some (.cells #[.slice none 0 0] 74 (0, 0))
  nvb : wr.heap[nv]? = some (.cells #[.map (some m2)] 99 (0, 0))
  names : NamesAt wr m2 l A
  list : wr.ownsRow w.heap.size 9 1 lv l.length (strs (inOrder l))
  byb : wr.ownsRow w.heap.size 9 1 bv l.length (strs (byBirth l))
  sides : SidesAt w.heap.size wr ms sd
section
variable {w wr : World} {A : Adr} {l : List (Name × Nat)} {fv lv bv : Value} {k : Int} {s0 s1 s2 nv m2 ms : Nat} {sd : List (Name × Side)}
theorem names_lt {w : World} {m : Nat} {l : List (Name × Nat)} {A : Adr} (h : NamesAt w m l A) : m < w.heap.size := by obtain ⟨_, _, hm⟩ := h; exact hm.lt
theorem CrashInv.move (h : CrashInv w wr A l fv k s0 s1 s2 nv m2 ms lv bv sd) {w2 : World} (hf : Frm (fun _ => False) wr w2) : CrashInv w w2 A l fv k s0 s1 s2 nv m2 ms lv bv sd :=
  ⟨h.frm.trans hf (fun _ _ h => h), (hf.block _ (Da.blk_lt h.box) id).trans h.box, (hf.block _ (Da.blk_lt h.res) id).trans h.res, (hf.block _ (Da.blk_lt h.img) id).trans h.img, (hf.block _ (Da.blk_lt h.nvb) id).trans h.nvb,
    h.names.same (hf.block _ (names_lt h.names) id), own_frm h.list hf, own_frm h.byb hf, h.sides.frm hf⟩
theorem own_ne_map {w : World} {base : Nat} {e : TypeId} {size n : Nat} {v : Value} {xs : List Value} (h : w.ownsRow base e size v n xs) {m : Nat} (hm : ∃ es cl, w.heap[m]? = some (Obj.map es cl)) : ∀ g, v.ownBlock = some g → some g ≠ some m := by
  intro g hg e1
  obtain ⟨es, cl, hh⟩ := hm
  rcases h.2 with ⟨h1, _⟩ | ⟨g', _, _, hv, _, hb, _⟩
  · rw [h1] at hg; simp [Value.ownBlock] at hg
  · rw [hv] at hg
    have : g' = g := by simpa [Value.ownBlock] using hg
    subst this
    rw [Option.some.inj e1, hh] at hb; cases hb
theorem CrashInv.put (h : CrashInv w wr A l fv k s0 s1 s2 nv m2 ms lv bv sd) (hne : m2 ≠ ms) (hb : w.heap.size ≤ ms) {w2 : World} {sd2 : List (Name × Side)} (hg : wr.grownBy w2 (some ms)) (hs : SidesAt w.heap.size w2 ms sd2) : CrashInv w w2 A l fv k s0 s1 s2 nv m2 ms lv bv sd2 := by
  have hm : ∃ es cl, wr.heap[ms]? = some (Obj.map es cl) := by
    obtain ⟨es, ⟨x, cl, hh, _⟩, _⟩ := h.sides; exact ⟨x, cl, hh⟩
  have hc : ∀ (g : Nat) (cs : Array Value) (t : TypeId), wr.heap[g]? = some (Obj.cells cs t (0, 0)) → w2.heap[g]? = wr.heap[g]? := by
    intro g cs t hh
    refine hg.block g (Da.blk_lt hh) fun e => ?_
    obtain ⟨x, cl, e2⟩ := hm
    rw [Option.some.inj e, e2] at hh; cases hh
  exact ⟨h.frm.grown hg (fun k e hk => by have := Option.some.inj e; omega), (hc _ _ _ h.box).trans h.box, (hc _ _ _ h.res).trans h.res, (hc _ _ _ h.img).trans h.img, (hc _ _ _ h.nvb).trans h.nvb,
    h.names.same (hg.block _ (names_lt h.names) (fun e => hne (Option.some.inj e))), own_grown h.list hg (own_ne_map h.list hm), own_grown h.byb hg (own_ne_map h.byb hm), hs⟩
end
end Go.Proofs.YtkmmlfphcfcbgaaGreatDoor.Dw
